/- Calls, deferred calls and rounds. -/
import Derived.Test.YtiedaccgagnofaaGreatRj
namespace Go.Proofs.YtiedaccgagnofaaGreat
open Go.RowKit

/-- What stands in for functions does what they do. -/
structure SpecsOk (C : Ctx) : Prop where
  call : ∀ f s, C.spec f = some s → ∀ args H v H', s args H = some (v, H') → ∀ (R : Ren) (w0 : Fr) (w : World) (args' : Array Value), HRel R w0 H w → VRels R args args'.toList →
    Calls C.P f args' w fun
      | .returned v', w' => ∃ R', R.le R' ∧ VRel R' v v' ∧ HRel R' w0 H' w'
      | _, _ => False
  dcall : ∀ f s, C.spec f = some s → C.dspec f = true → ∀ args H v H', s args H = some (v, H') → ∀ (R : Ren) (w0 : Fr) (w : World) (args' : Array Value), HRel R w0 H w → VRels R args args'.toList →
    CallsDIn Fence.wide 0 C.P f args' .returning w fun
      | .returned _, u', w' => u' = .returning ∧ ∃ R', R.le R' ∧ HRel R' w0 H' w'
      | _, _, _ => False
def funcOk (fn : Func) : Bool := Nat.ble fn.ntmps lmax && (match fn.body with | some c => codeOk fn.ntmps c | none => false)
/-- All that must be known of the program. -/
structure Ctx.Good (C : Ctx) : Prop where
  sound : C.Sound
  mixed : C.P.follows .mixedOrders = true
  code : ∀ f fn, C.fn f = some fn → funcOk fn = true
  specs : SpecsOk C

theorem putT_get {T : PT Value} {t d : Nat} {v : Value} (hd : d < lmax) : lk (T.set (d + 1) d (some v)) t = if t = d then v else lk T t := by
  unfold lk
  rw [PT.get_set _ _ _ _ _ (pow_ok d)]
  by_cases e : t = d
  · rw [if_pos e, if_pos e]
  · rw [if_neg e, if_neg e]
theorem largs_get : ∀ (xs : List Value) (i : Nat) (T : PT Value) (t : Nat), i + xs.length ≤ lmax → lk (largs xs i T) t = if i ≤ t ∧ t < i + xs.length then (xs[t - i]?).getD undef else lk T t := by
  intro xs
  induction xs with
  | nil => intro i T t _; simp only [largs, List.length_nil]; rw [if_neg (by omega)]
  | cons x xs ih =>
    intro i T t h
    simp only [List.length_cons] at h
    simp only [largs]
    rw [ih (i + 1) _ t (by omega), putT_get (by omega)]
    simp only [List.length_cons]
    by_cases e : t = i
    · subst e
      rw [if_neg (by omega), if_pos rfl, if_pos (by omega)]
      simp
    · by_cases e2 : i + 1 ≤ t ∧ t < i + 1 + xs.length
      · rw [if_pos e2, if_pos (by omega)]
        have : t - i = (t - (i + 1)) + 1 := by omega
        rw [this, List.getElem?_cons_succ]
      · rw [if_neg e2, if_neg e, if_neg (by omega)]

section
variable {R : Ren}
/-- The temporaries a call begins with. -/
theorem args_rel {args : List Value} {args' : Array Value} {n : Nat} (h : VRels R args args'.toList) (hn : args.length ≤ n) (hm : n ≤ lmax) (H : LH) :
    ARel R n ⟨largs args 0 .nil, [], H⟩ { tmps := args' ++ Array.replicate (n - args'.size) undef, defers := [] } := by
  have hl : args.length = args'.size := by simpa using h.1
  refine ⟨fun t => ?_, by simp; omega, DRels.nil R, hm⟩
  show VRel R (lk (largs args 0 .nil) t) _
  rw [largs_get args 0 .nil t (by omega)]
  simp only [Array.getD_eq_getD_getElem?, Array.getElem?_append]
  by_cases e : t < args.length
  · rw [if_pos ⟨Nat.zero_le _, by omega⟩, if_pos (by omega)]
    have e1 : args[t - 0]? = some args[t] := by rw [Nat.sub_zero]; exact List.getElem?_eq_getElem e
    obtain ⟨v', e2, e3⟩ := h.get (i := t) (v := args[t]) (List.getElem?_eq_getElem e)
    rw [e1]
    rw [Array.getElem?_toList] at e2
    rw [e2]
    exact e3
  · rw [if_neg (by omega), if_neg (by omega)]
    have : lk (.nil : PT Value) t = undef := rfl
    rw [this, Array.getElem?_replicate]
    split <;> exact undef_rel R
/-- The temporaries a round begins with. -/
theorem params_rel {n : Nat} (hm : n ≤ lmax) : ∀ (ps : List Tmp) (xs ys : List Value) (T : PT Value) (arr : Array Value), VRels R xs ys → ps.all (fun p => Nat.blt p n) = true → TRel R T arr → arr.size = n →
    TRel R (lparams ps xs T) ((ps.zip ys).foldl (fun tmps (t, a) => tmps.setIfInBounds t a) arr) ∧ ((ps.zip ys).foldl (fun tmps (t, a) => tmps.setIfInBounds t a) arr).size = n := by
  intro ps
  induction ps with
  | nil => intro xs ys T arr _ _ h hs; simp only [lparams, List.zip_nil_left, List.foldl_nil]; exact ⟨h, hs⟩
  | cons p ps ih =>
    intro xs ys T arr hv hp h hs
    simp only [List.all_cons, Bool.and_eq_true] at hp
    have hpn : p < n := Nat.le_of_ble_eq_true hp.1
    cases xs with
    | nil =>
      cases ys with
      | nil => simp only [lparams, List.zip_nil_right, List.foldl_nil]; exact ⟨h, hs⟩
      | cons y ys => simp [VRels] at hv
    | cons x xs =>
      obtain ⟨y, ys', rfl, h1, h2⟩ := hv.uncons
      simp only [lparams, List.zip_cons_cons, List.foldl_cons]
      exact ih xs ys' _ _ h2 hp.2 (h.set (hs ▸ hpn) (Nat.lt_of_lt_of_le hpn hm) h1) (by simp [hs])

/-- A result of a call. -/
def resOf (tmps : Array Value) : ResultVar → Sem Value := fun
  | .tmp t => pure (tmps.getD t undef)
  | .cell a t => do loadVar t (← asAddr (tmps.getD a undef))
theorem results_eq (fn : Func) (tmps : Array Value) : results fn tmps = (fn.results.mapM (resOf tmps) >>= fun vs => pure (if h : vs.size = 1 then vs[0] else .tuple vs)) := rfl

variable {C : Ctx} (hC : C.Sound) {w0 : Fr} {w : World}
 include hC in
theorem lresults_ok {n : Nat} {s : LS} {a : Act} (h : HRel R w0 s.heap w) (ha : ARel R n s a) {fn : Func} {l : List Value} (hl : lresults C.toTab s fn.results.toList = some l) :
    ∃ v, (results fn a.tmps).run C.P w = .ok v w ∧ VRel R (lvalue l) v := by
  have key : ∀ (rs : List ResultVar) (l : List Value), lresults C.toTab s rs = some l → ∃ l', (rs.mapM (resOf a.tmps)).run C.P w = .ok l' w ∧ VRels R l l' := by
    intro rs
    induction rs with
    | nil => intro l hl; simp only [lresults] at hl; injection hl with hl; subst hl; exact ⟨[], rfl, VRels.nil R⟩
    | cons r rs ih =>
      intro l hl
      simp only [lresults] at hl
      split at hl
      · rename_i v vs hv hvs
        injection hl with hl; subst hl
        obtain ⟨l', g1, g2⟩ := ih vs hvs
        have h1 : ∃ v', (resOf a.tmps r).run C.P w = .ok v' w ∧ VRel R v v' := by
          cases r with
          | tmp t =>
            simp only [lresult] at hv
            injection hv with hv; subst hv
            exact ⟨_, rfl, ha.eval (x := .tmp t) rfl⟩
          | cell x t =>
            simp only [lresult] at hv
            have hx := ha.eval (x := .tmp x) rfl
            have hrun := lload_ok hC.tab h hx hv
            obtain ⟨v', k1, k2⟩ := hrun
            refine ⟨v', ?_, k2⟩
            have hp : ∃ ad, a.eval (.tmp x) = .pointer (some ad) := by
              unfold lload at hv
              split at hv
              · rename_i e1; rw [e1] at hx
                generalize a.eval (.tmp x) = u at *
                cases hx with
                | ptr hp off => exact ⟨_, rfl⟩
              · cases hv
            obtain ⟨ad, e2⟩ := hp
            have e3 : a.tmps.getD x undef = .pointer (some ad) := e2
            rw [e2] at k1
            simp only [resOf, e3, asAddr, Sem.run_bind, Sem.run_pure, Result.andThen_ok]
            simpa [Instr.loadAt, Instr.sureAddr] using k1
        obtain ⟨v', k1, k2⟩ := h1
        refine ⟨v' :: l', ?_, .cons k2 g2⟩
        rw [List.mapM_cons]
        simp only [Sem.run_bind]
        rw [k1]
        simp only [Result.andThen_ok]
        rw [g1]
        rfl
      · cases hl
  obtain ⟨l', g1, g2⟩ := key _ _ hl
  have hr : (results fn a.tmps).run C.P w = .ok (if h : l'.toArray.size = 1 then l'.toArray[0] else .tuple l'.toArray) w := by
    rw [results_eq, Array.mapM_eq_mapM_toList]
    simp only [Sem.run_bind]
    have : (List.toArray <$> fn.results.toList.mapM (resOf a.tmps) : Sem (Array Value)).run C.P w = .ok l'.toArray w := by
      rw [← bind_pure_comp]
      simp only [Sem.run_bind]
      rw [g1]; rfl
    rw [this]
    rfl
  refine ⟨_, hr, ?_⟩
  cases l with
  | nil =>
    have : l' = [] := List.eq_nil_of_length_eq_zero (by have := g2.1; simpa using this.symm)
    subst this
    exact VRel.of_flat1 R rfl
  | cons v l =>
    obtain ⟨v', l'', rfl, k1, k2⟩ := g2.uncons
    cases l with
    | nil =>
      have : l'' = [] := List.eq_nil_of_length_eq_zero (by have := k2.1; simpa using this.symm)
      subst this
      exact k1
    | cons u l =>
      have hn : ¬ (v' :: l'').toArray.size = 1 := by have := k2.1; simp at this ⊢; intro q; rw [q] at this; simp at this
      rw [dif_neg hn]
      have hg := VRels.cons k1 k2
      exact .tuple (by simpa using hg.1) fun i x y p q => hg.2 i x y (by simpa using p) (by simpa using q)

/-- An object is no more, and its block is turned. -/
theorem HRel.gone {H : LH} (h : HRel R w0 H w) {id : Nat} (hm : (0 : Nat) < 1) {o : LObj} {p : Place} (hid : H.at id = some o) (hp : R id = some p) (x : Obj) : HRel R w0 (H.put id none) (w.putObj p.block x) := by
  obtain ⟨hb, hold⟩ := h.get hid hp
  have hk : ∀ b, b ≠ p.block → (w.putObj p.block x).heap[b]? = w.heap[b]? := fun b hne => World.putObj_heap_other hne
  refine ⟨fun j q hq => ?_, fun i j q q' r r' hi hj hri hrj e => ?_, fun j hj => h.fresh j (by simpa [LH.put] using hj), ⟨h.below.os, h.below.tape, h.below.output, by simpa using h.below.size, fun k hk' => (hk k (fun e => hb (e ▸ hk'))).trans (h.below.block k hk')⟩, h.holes⟩
  · rw [LH.at_put hm] at hq
    split at hq
    · cases hq
    · rename_i e
      obtain ⟨r, h1, h2, h3⟩ := h.live j q hq
      exact ⟨r, h1, h2, h3.keep (Ren.le_refl R) (hk _ fun ee => e (h.one j id _ _ _ _ hq hid h1 hp ee))⟩
  · rw [LH.at_put hm] at hi hj
    split at hi
    · cases hi
    · split at hj
      · cases hj
      · exact h.one i j _ _ r r' hi hj hri hrj e
end

section
variable {C : Ctx} (hG : C.Good) {call : LCall} {dcall : LDCall} {round : LRound} (hcall : CallOk C call) (hdcall : DCallOk C dcall) (hround : RoundOk C round)

 include hG hdcall in
theorem ldefers_ok {fn : Func} {tmps : Array Value} {Q : Ending → World → Prop} {w0 : Fr} : ∀ (ds ds' : List Deferred) (H H' : LH) (R : Ren) (w : World), DRels R ds ds' → HRel R w0 H w → ldefers C dcall ds H = some H' →
    (∀ R' w', R.le R' → HRel R' w0 H' w' → ∃ v, (results fn tmps).run C.P w' = .ok v w' ∧ Q (.returned v) w') → LeavesInM Fence.wide 0 C.P fn tmps Q ds' .returning w := by
  intro ds
  induction ds with
  | nil =>
    intro ds' H H' R w hd h hl hQ
    simp only [ldefers] at hl
    injection hl with hl; subst hl
    have : ds' = [] := List.eq_nil_of_length_eq_zero (by have := hd.1; simpa using this.symm)
    subst this
    exact hQ R w (Ren.le_refl R) h
  | cons d ds ih =>
    intro ds' H H' R w hd h hl hQ
    obtain ⟨d', ds'', rfl, h1, h2⟩ := hd.uncons
    refine ⟨by simp, ?_⟩
    simp only [ldefers] at hl
    cases h1 with
    | @call f c c' a a' hc ha =>
      right
      simp only at hl
      split at hl
      · rename_i fn' hext hfn
        split at hl
        · rename_i H1 hdc
          have henter := run_enterFunc hG.sound hfn (a' ++ c') w
          refine ⟨fun q => by simp [Fence.wide] at q, .func f, c', f, a' ++ c', rfl, henter, fun _ _ => trivial, ?_⟩
          have hargs : VRels R (a ++ c).toList (a' ++ c').toList := by simpa using ha.append hc
          have hD := hdcall f _ H H1 hdc R w0 w _ h hargs
          refine ⟨hD.1, fun cc cs hu hroom => ?_⟩
          obtain ⟨e, u', w', fr, r1, r2⟩ := hD.2 cc cs hu hroom
          refine ⟨e, u', w', fr, ?_, r2⟩
          cases e with
          | returned v =>
            obtain ⟨rfl, R', k1, k2⟩ := r1
            exact ih ds'' H1 H' R' w' (h2.mono k1) k2 hl fun R'' w'' q1 q2 => hQ R'' w'' (Ren.le_trans k1 q1) q2
          | panicked ch => exact r1.elim
          | outgrown => exact r1.elim
        · cases hl
      · cases hl
    | @mark id p hp =>
      left
      simp only at hl
      split at hl
      · rename_i hat hlt
        have hlt : (0 : Nat) < 1 := Nat.le_of_ble_eq_true hlt
        cases (h.get hat hp).2 with
        | held hh =>
          exact ⟨p.block, _, rfl, run_takeDeferred hh, ih ds'' _ H' R _ h2 (h.gone hlt hat hp _) hl hQ⟩
      · cases hl

 include hG hcall hdcall hround in
theorem lcall1_ok : CallOk C (lcall1 C call dcall round) := by
  intro f args H v H' hl R w0 w args' h hargs
  unfold lcall1 at hl
  split at hl
  · rename_i s hs
    exact hG.specs.call f s hs args H v H' hl R w0 w args' h hargs
  · split at hl
    · rename_i fn hfn
      split at hl
      · rename_i c hb
        split at hl
        · rename_i hnt
          have hnt := Nat.le_of_ble_eq_true hnt
          have hok := hG.code f fn hfn
          simp only [funcOk, hb, Bool.and_eq_true] at hok
          have hlm := Nat.le_of_ble_eq_true hok.1
          obtain ⟨hf1, _, _⟩ := hG.sound.fn f fn hfn
          have ha := args_rel hargs hnt hlm H
          have fin : ∀ (e : LExit) (s : LS), lcode C call round .plain c ⟨largs args 0 .nil, [], H⟩ = some (e, s) → (e = .normal ∨ e = .ret) →
              (match ldefers C dcall s.defers s.heap with
                | some H' => match lresults C.toTab { s with heap := H' } fn.results.toList with
                  | some l => some (lvalue l, H')
                  | none => none
                | none => none) = some (v, H') →
              Calls C.P f args' w fun
                | .returned v', w' => ∃ R', R.le R' ∧ VRel R' v v' ∧ HRel R' w0 H' w'
                | _, _ => False := fun e s hs he hr => by
            split at hr
            · rename_i H1 hd
              split at hr
              · rename_i l hres
                injection hr with hr; injection hr with h1 h2; subst h1; subst h2
                refine callsIn_wide.1 (callsIn_of_wp_marks hf1 hb trivial (n := 0) ?_)
                refine lcode_ok hG.sound hG.mixed hcall hround c hok.2 _ e s R Fence.wide w0 _ w _ hs rfl h ha fun R' a' w' q1 q2 q3 => ?_
                have hleave : LeavesInM Fence.wide 0 C.P fn a'.tmps (fun
                    | .returned v', w' => ∃ R', R.le R' ∧ VRel R' (lvalue l) v' ∧ HRel R' w0 H1 w'
                    | _, _ => False) a'.defers .returning w' :=
                  ldefers_ok hG hdcall s.defers a'.defers s.heap H1 R' w' q3.defers q2 hd fun R'' w'' k1 k2 => by
                    obtain ⟨v', m1, m2⟩ := lresults_ok hG.sound (s := { s with heap := H1 }) (a := a') (n := fn.ntmps) k2 ⟨q3.tmps.mono k1, q3.size, q3.defers.mono k1, q3.few⟩ hres
                    exact ⟨v', m1, R'', Ren.le_trans q1 k1, m2, k2⟩
                rcases he with rfl | rfl <;> exact hleave
              · cases hr
            · cases hr
          split at hl
          · rename_i s hs; exact fin _ s hs (.inl rfl) hl
          · rename_i s hs; exact fin _ s hs (.inr rfl) hl
          · cases hl
        · cases hl
      · cases hl
    · cases hl

 include hG hcall hround in
/-- Code of a deferred call that finds no panic. -/
theorem lcodeD_ok {n : Nat} : ∀ (c : Code), codeOk n c = true → ∀ (s : LS) (e : LExit) (s' : LS) (R : Ren) (w0 : Fr) (a : Act) (w : World) (cs : List Frame) (Q : Exit → Act → List Frame → World → Prop),
    lcodeD C call round c s = some (e, s') → HRel R w0 s.heap w → ARel R n s a → recoverD cs = none → (∀ R' a' w', R.le R' → HRel R' w0 s'.heap w' → ARel R' n s' a' → Q e.to a' cs w') → c.wpSIn Fence.wide 0 C.P Q a cs w := by
  intro c
  have plain : ∀ (c : Code), codeOk n c = true → ∀ (s : LS) (e : LExit) (s' : LS) (R : Ren) (w0 : Fr) (a : Act) (w : World) (cs : List Frame) (Q : Exit → Act → List Frame → World → Prop),
      lcode C call round .plain c s = some (e, s') → HRel R w0 s.heap w → ARel R n s a → recoverD cs = none → (∀ R' a' w', R.le R' → HRel R' w0 s'.heap w' → ARel R' n s' a' → Q e.to a' cs w') → c.wpSIn Fence.wide 0 C.P Q a cs w :=
    fun c hok s e s' R w0 a w cs Q hl h ha hrec hQ => wpSIn_of_wpIn rfl (lcode_ok hG.sound hG.mixed hcall hround c hok s e s' R Fence.wide w0 a w _ hl rfl h ha hQ)
  induction c with
  | seq x y ihx ihy =>
    intro hok s e s' R w0 a w cs Q hl h ha hrec hQ
    simp only [codeOk, Bool.and_eq_true] at hok
    simp only [lcodeD] at hl
    split at hl
    · rename_i s1 hs
      exact wpSIn_seq (ihx hok.1 s .normal s1 R w0 a w cs _ hs h ha hrec fun R' a' w' q1 q2 q3 => ihy hok.2 s1 e s' R' w0 a' w' cs Q hl q2 q3 hrec fun R'' a'' w'' p1 p2 p3 => hQ R'' a'' w'' (Ren.le_trans q1 p1) p2 p3)
    · rename_i r hne
      have hen : e ≠ .normal := fun q => hne s' (by rw [hl, q])
      refine wpSIn_seq (ihx hok.1 s e s' R w0 a w cs _ hl h ha hrec fun R' a' w' q1 q2 q3 => ?_)
      have := hQ R' a' w' q1 q2 q3
      cases e <;> first | exact absurd rfl hen | exact this
  | cond x c1 c2 ih1 ih2 =>
    intro hok s e s' R w0 a w cs Q hl h ha hrec hQ
    simp only [codeOk, Bool.and_eq_true] at hok
    simp only [lcodeD] at hl
    have hx := ha.eval hok.1.1
    split at hl
    · rename_i hb
      rw [hb] at hx
      have hx' : a.eval x = .bool true := by generalize a.eval x = u at *; cases hx; rfl
      exact wpSIn_cond hx' (ih1 hok.1.2 s e s' R w0 a w cs Q hl h ha hrec hQ)
    · rename_i hb
      rw [hb] at hx
      have hx' : a.eval x = .bool false := by generalize a.eval x = u at *; cases hx; rfl
      exact wpSIn_cond hx' (ih2 hok.2 s e s' R w0 a w cs Q hl h ha hrec hQ)
    · cases hl
  | region id ops draw =>
    intro hok s e s' R w0 a w cs Q hl h ha hrec hQ b k hb hro hF hroom
    have hg : Go.Proofs.YtiedaccgagnofaaGreat.Good R .deferred b cs := ⟨hro, hb, hrec⟩
    cases draw with
    | false =>
      simp only [lcodeD] at hl
      split at hl
      · rename_i s1 hs
        injection hl with hl; injection hl with h1 h2; subst h1; subst h2
        obtain ⟨R', a', w', g1, g2, g3, g4⟩ := lops_ok hG.sound hcall hround (List.range ops.size) ops.toList s s1 R a w (by
          apply List.ext_getElem?
          intro i
          simp only [List.getElem?_map, Array.getElem?_toList]
          rcases Nat.lt_or_ge i ops.size with q | q
          · rw [List.getElem?_range q, Array.getElem?_eq_getElem q]; simp
          · rw [List.getElem?_eq_none (by simpa using q), Array.getElem?_eq_none q]; rfl) hok hg h ha hs
        exact ⟨.normal, a', cs, w', rfl, hQ R' a' w' g1 g2 g3, stepsIn_wide.2 (.head stepR_region g4)⟩
      · cases hl
    | true =>
      simp only [lcodeD] at hl
      split at hl
      · rename_i s1 hs
        injection hl with hl; injection hl with h1 h2; subst h1; subst h2
        obtain ⟨R', a', w', g1, g2, g3, g4⟩ := ldraw_ok hG.sound hcall hround (b := b) (cs := cs) (kk := k) (w := { w with drawn := w.drawn + 1 }) (w.tape w.drawn (.order b.fn id)) hok hg h.drew ha hs
        refine ⟨.normal, a', cs, w', rfl, hQ R' a' w' g1 g2 g3, stepsIn_wide.2 (.head stepR_region_draw ?_)⟩
        rw [hG.mixed]
        exact g4
      · cases hl
  | skip => intro hok s e s' R w0 a w cs Q hl; exact plain _ hok s e s' R w0 a w cs Q hl
  | label l => intro hok s e s' R w0 a w cs Q hl; exact plain _ hok s e s' R w0 a w cs Q hl
  | exit id => intro hok s e s' R w0 a w cs Q hl; exact plain _ hok s e s' R w0 a w cs Q hl
  | ret => intro hok s e s' R w0 a w cs Q hl; exact plain _ hok s e s' R w0 a w cs Q hl
  | block id c _ => intro hok s e s' R w0 a w cs Q hl; exact plain _ hok s e s' R w0 a w cs Q hl
  | loop c _ => intro hok s e s' R w0 a w cs Q hl; exact plain _ hok s e s' R w0 a w cs Q hl
  | rangeFunc g ps x y _ _ => intro hok s e s' R w0 a w cs Q hl; exact plain _ hok s e s' R w0 a w cs Q hl
  | scope c _ => intro hok s e s' R w0 a w cs Q hl; exact plain _ hok s e s' R w0 a w cs Q hl
  | goto l => intro hok s e s' R w0 a w cs Q hl; exact plain _ hok s e s' R w0 a w cs Q hl
  | refuse why => intro hok s e s' R w0 a w cs Q hl; exact plain _ hok s e s' R w0 a w cs Q hl

 include hG hcall hround in
theorem ldcall1_ok : DCallOk C (ldcall1 C call round) := by
  intro f args H H' hl R w0 w args' h hargs
  unfold ldcall1 at hl
  split at hl
  · rename_i s hs
    split at hl
    · rename_i hds
      split at hl
      · rename_i v H1 hr
        injection hl with hl; subst hl
        exact hG.specs.dcall f s hs hds args H v H1 hr R w0 w args' h hargs
      · cases hl
    · cases hl
  · split at hl
    · rename_i fn hfn
      split at hl
      · rename_i c hb hres
        split at hl
        · rename_i hnt
          have hnt := Nat.le_of_ble_eq_true hnt
          have hok := hG.code f fn hfn
          simp only [funcOk, hb, Bool.and_eq_true] at hok
          have hlm := Nat.le_of_ble_eq_true hok.1
          obtain ⟨hf1, _, _⟩ := hG.sound.fn f fn hfn
          have ha := args_rel hargs hnt hlm H
          have fin : ∀ (e : LExit) (s : LS), lcodeD C call round c ⟨largs args 0 .nil, [], H⟩ = some (e, s) → (e = .normal ∨ e = .ret) →
              (match s.defers with
                | [] => some s.heap
                | _ => none) = some H' →
              CallsDIn Fence.wide 0 C.P f args' .returning w fun
                | .returned _, u', w' => u' = .returning ∧ ∃ R', R.le R' ∧ HRel R' w0 H' w'
                | _, _, _ => False := fun e s hs he hr => by
            split at hr
            · rename_i hd
              injection hr with hr; subst hr
              refine callsDIn_of_wpSIn hf1 hb trivial fun c₀ cs hc₀ => ?_
              refine lcodeD_ok hG hcall hround c hok.2 _ e s R w0 _ w (c₀ :: cs) _ hs h ha (by simp [recoverD, hc₀]) fun R' a' w' q1 q2 q3 => ?_
              have hdn : a'.defers = [] := List.eq_nil_of_length_eq_zero (by have := q3.defers.1; rw [hd] at this; simpa using this.symm)
              obtain ⟨v, m1, _⟩ := lresults_ok hG.sound (l := []) q2 q3 (fn := fn) (by rw [hres]; rfl)
              have hpost : a'.defers = [] ∧ ∃ u', c₀ :: cs = { c₀ with mode := u' } :: cs ∧ ∃ v, (results fn a'.tmps).run C.P w' = .ok v w' ∧ (u' = .returning ∧ ∃ R', R.le R' ∧ HRel R' w0 s.heap w') :=
                ⟨hdn, .returning, by rw [← hc₀], v, m1, rfl, R', q1, q2⟩
              rcases he with rfl | rfl <;> exact hpost
            · cases hr
          split at hl
          · rename_i s hs; exact fin _ s hs (.inl rfl) hl
          · rename_i s hs; exact fin _ s hs (.inr rfl) hl
          · cases hl
        · cases hl
      · cases hl
    · cases hl

 include hG hcall hround in
theorem lround1_ok : RoundOk C (lround1 C call round) := by
  intro l args H v H' hl R w0 w args' p r' h hargs hp hheap hsz
  unfold lround1 at hl
  split at hl
  · rename_i r hr
    obtain ⟨hat, hlt⟩ := lloopAt_at hr
    have hold := (h.get hat hp).2
    split at hl
    · cases hold with
      | @loop _ rr qd hh k1 k2 k3 k4 k5 k6 k7 ht k8 =>
        rw [hheap] at hh; injection hh with hh; injection hh with hh; subst hh
        simp only [loopOk, Bool.and_eq_true] at k8
        obtain ⟨⟨⟨z1, z2⟩, z3⟩, z4⟩ := k8
        have hlm := Nat.le_of_ble_eq_true z1
        obtain ⟨t1, t2⟩ := params_rel hlm r.params.toList args args'.toList r.tmps r'.tmps hargs z2 ht rfl
        have hrt : roundTmps r' args' = ((r.params.toList.zip args'.toList).foldl (fun tmps (t, a) => tmps.setIfInBounds t a) r'.tmps) := by
          unfold roundTmps
          rw [← Array.foldl_toList, Array.toList_zip, k3]
        have ha : ARel R r'.tmps.size ⟨lparams r.params.toList args r.tmps, [], H⟩ { tmps := roundTmps r' args', defers := [] } :=
          ⟨by rw [hrt]; exact t1, by rw [hrt]; exact t2, DRels.nil R, hlm⟩
        split at hl
        · rename_i s hs
          split at hl
          · rename_i r1 hr1
            obtain ⟨hat1, hlt1⟩ := lloopAt_at hr1
            split at hl
            · rename_i hst
              split at hl
              · rename_i e s2 hs2
                refine roundIn_of_wpIn trivial ?_
                have hF : FenceOf R (.round l) (Fence.wide.inRound p.block) := ⟨p, hp, rfl⟩
                rw [k4]
                refine lcode_ok hG.sound hG.mixed hcall hround r.assign z3 _ .normal s R _ w0 _ w _ hs hF h ha fun R1 a1 w1 q1 q2 q3 => ?_
                have hp1 := q1 _ _ hp
                cases (q2.get hat1 hp1).2 with
                | @loop _ rr1 qd1 hh1 m1 m2 m3 m4 m5 m6 m7 mt m8 =>
                  have hbegin := run_beginRound (P := C.P) hh1 (by rw [m1, hst])
                  have hrel := q2.setObj hlt1 hp1 (x := .loop { r1 with state := .busy }) (o2 := .loop { rr1 with state := .busy }) hat1 fun w' hw => .loop (q := qd1) hw rfl m2 m3 m4 m5 m6 m7 mt m8
                  refine ⟨_, hbegin, ?_⟩
                  rw [k5]
                  refine lcode_ok hG.sound hG.mixed hcall hround r.body z4 { s with heap := s.heap.put l (some (.loop { r1 with state := .busy })) } e s2 R1 _ w0 a1 _ _ hs2 (hF.mono q1) hrel ⟨q3.tmps, q3.size, q3.defers, q3.few⟩ fun R2 a2 w2 p1 p2 p3 => ?_
                  split at hl
                  · rename_i r2 jump hr2 hj
                    injection hl with hl; injection hl with h1 h2; subst h1; subst h2
                    obtain ⟨hat2, hlt2⟩ := lloopAt_at hr2
                    have hp2 := p1 _ _ hp1
                    cases (p2.get hat2 hp2).2 with
                    | @loop _ rr2 qd2 hh2 n1 n2 n3 n4 n5 n6 n7 nt n8 =>
                      have hend := run_endRound (P := C.P) jump hh2
                      have hrel2 := p2.setObj hlt2 hp2 (x := .loop { r2 with state := if jump.isNone then .ready else .done, pending := jump }) (o2 := .loop { rr2 with state := if jump.isNone then .ready else .done, pending := jump }) hat2 fun w' hw => .loop (q := qd2) hw rfl rfl n3 n4 n5 n6 n7 nt n8
                      have hres : ∃ v w', (Instr.endRound p.block jump).run C.P w2 = .ok v w' ∧ ∃ R', R.le R' ∧ VRel R' (.bool jump.isNone) v ∧ HRel R' w0 (s2.heap.put l (some (.loop { r2 with state := if jump.isNone then .ready else .done, pending := jump }))) w' :=
                        ⟨_, _, hend, R2, Ren.le_trans q1 p1, .bool _, hrel2⟩
                      cases e with
                      | normal => simp only [lexitCode] at hj; injection hj with hj; subst hj; exact hres
                      | ret => simp only [lexitCode] at hj; injection hj with hj; subst hj; exact hres
                      | exit id => simp only [lexitCode] at hj; injection hj with hj; subst hj; exact hres
                  · cases hl
              · cases hl
            · cases hl
          · cases hl
        · cases hl
    · cases hl
  · cases hl
end

/-- Calls, deferred calls and rounds of the second run, so deep. -/
theorem ldeep_ok {C : Ctx} (hG : C.Good) : ∀ n, CallOk C (ldeep C n).1 ∧ DCallOk C (ldeep C n).2.1 ∧ RoundOk C (ldeep C n).2.2 := by
  intro n
  induction n with
  | zero => exact ⟨fun f args H v H' h => by simp [ldeep] at h, fun f args H H' h => by simp [ldeep] at h, fun l args H v H' h => by simp [ldeep] at h⟩
  | succ n ih =>
    obtain ⟨h1, h2, h3⟩ := ih
    exact ⟨lcall1_ok hG h1 h2 h3, ldcall1_ok hG h1 h3, lround1_ok hG h1 h3⟩
/-- **What the second run says of a call, the program does**, from any state of memory; nothing of old is touched. -/
theorem lcall_ok {C : Ctx} (hG : C.Good) {n : Nat} {f : FuncId} {v : Value} {H' : LH} (h : lcall C n f [] .empty = some (v, H')) (w : World) :
    Calls C.P f #[] w fun
      | .returned v', w' => ∃ R, VRel R v v' ∧ HRel R (Fr.all w) H' w'
      | _, _ => False := by
  refine Calls.mono ((ldeep_ok hG n).1 f [] .empty v H' h _ (Fr.all w) w #[] (HRel.empty w) (VRels.nil _)) fun e w' he => ?_
  cases e with
  | returned v' => obtain ⟨R', _, h1, h2⟩ := he; exact ⟨R', h1, h2⟩
  | panicked c => exact he
  | outgrown => exact he
end Go.Proofs.YtiedaccgagnofaaGreat
