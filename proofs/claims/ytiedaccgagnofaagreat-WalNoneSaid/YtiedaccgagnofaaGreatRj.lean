/- Ranges over functions; code, all of it. -/
import Derived.Test.YtiedaccgagnofaaGreatRi
namespace Go.Proofs.YtiedaccgagnofaaGreat
open Go.RowKit

section
variable {C : Ctx} {R : Ren} {w0 : Fr} {w : World}

theorem lenterLoop_ok {m : LMode} {n : Nat} {F : Fence} {s : LS} {a : Act} {ps : Array Tmp} {assign body : Code} {l : Nat} {mark : List Deferred} {H : LH} (hF : FenceOf R m F) (h : HRel R w0 s.heap w) (ha : ARel R n s a) (hok : loopOk n ps assign body = true)
    (hl : lenterLoop s.heap m.around s.tmps ps assign body = some (l, mark, H)) (fn : FuncId) (P : Program) :
    ∃ R1 w1 p mark', (Instr.enterLoop fn a.tmps ps assign body F.round).run P w = .ok (p.block, mark') w1 ∧ R.le R1 ∧ HRel R1 w0 H w1 ∧ R1 l = some p ∧ DRels R1 mark mark' := by
  unfold lenterLoop at hl
  split at hl
  · cases hl
  · rename_i hm
    have hm : (0 : Nat) < 1 := Nat.le_of_ble_eq_true hm
    split at hl
    · rename_i l0 hro
      cases m with
      | plain => simp [LMode.around] at hro
      | deferred => exact hF.elim
      | round l1 =>
        simp only [LMode.around, Option.some.injEq] at hro
        subst hro
        split at hl
        · rename_i r hr
          injection hl with hl; injection hl with h1 hl; injection hl with h2 h3; subst h1; subst h2; subst h3
          obtain ⟨p0, e1, e2⟩ := hF
          obtain ⟨hat, hlt⟩ := lloopAt_at hr
          cases (h.get hat e1).2 with
          | @loop _ r' q hh k1 k2 k3 k4 k5 k6 k7 ht k8 =>
            refine ⟨R.add s.heap.next ⟨w.heap.size, 0, 0, 0, 0⟩, w.alloc (.loop { state := .ready, pending := none, fn, tmps := a.tmps, params := ps, assign, body, defers := r'.defers }), ⟨w.heap.size, 0, 0, 0, 0⟩, [], ?_, Ren.le_add _ (h.fresh _ (Nat.le_refl _)), ?_, Ren.add_self _ _ _, DRels.nil _⟩
            · rw [e2]
              simp only [Fence.inRound_round, Instr.enterLoop, Sem.run_bind, run_getLoop hh, Result.andThen_ok, Sem.run_pure, Go.Proofs.YtiedaccgagnofaaGreat.run_newObj]
            · exact h.newObj (by omega) fun R' w' hR hw => .loop hw rfl rfl rfl rfl rfl (hR _ _ k6) k7 (ha.tmps.mono hR) (by rw [ha.size]; exact hok)
        · cases hl
    · rename_i hro
      injection hl with hl; injection hl with h1 hl; injection hl with h2 h3; subst h1; subst h2; subst h3
      have hround : F.round = none := by
        cases m with
        | plain => rw [show F = Fence.wide from hF]; rfl
        | deferred => exact hF.elim
        | round l1 => simp [LMode.around] at hro
      have h1 := h.newObj (x := .held) (o := .deferred (some [])) (by omega) fun R' w' hR hw => .held hw
      have hle1 : R.le (R.add s.heap.next ⟨w.heap.size, 0, 0, 0, 0⟩) := Ren.le_add _ (h.fresh _ (Nat.le_refl _))
      have hm2 : (0 : Nat) < 1 := hm
      have hf2 := h1.fresh (s.heap.new .held).next (Nat.le_refl _)
      have h2 := h1.newObj (x := .loop ⟨.ready, none, s.tmps, ps, assign, body, s.heap.next⟩) (o := .loop { state := .ready, pending := none, fn, tmps := a.tmps, params := ps, assign, body, defers := w.heap.size }) hm2
        fun R' w' hR hw => .loop (q := ⟨w.heap.size, 0, 0, 0, 0⟩) hw rfl rfl rfl rfl rfl (hR _ _ (Ren.add_self _ _ _)) rfl (ha.tmps.mono (Ren.le_trans hle1 hR)) (by rw [ha.size]; exact hok)
      have hsz : (w.alloc (.deferred (some []))).heap.size = w.heap.size + 1 := by simp
      have hle2 := Ren.le_add (R := R.add s.heap.next ⟨w.heap.size, 0, 0, 0, 0⟩) ⟨(w.alloc (.deferred (some []))).heap.size, 0, 0, 0, 0⟩ hf2
      refine ⟨_, _, ⟨(w.alloc (.deferred (some []))).heap.size, 0, 0, 0, 0⟩, [{ target := .collected w.heap.size, args := #[] }], ?_, Ren.le_trans hle1 hle2, h2, Ren.add_self _ _ _, ?_⟩
      · rw [hround, run_enterLoop_outer, hsz]
      · exact .cons (.mark (p := ⟨w.heap.size, 0, 0, 0, 0⟩) (hle2 _ _ (Ren.add_self _ _ _))) (.nil _)
end

section
variable {C : Ctx} (hC : C.Sound) (hmix : C.P.follows .mixedOrders = true) {call : LCall} {round : LRound} (hcall : CallOk C call) (hround : RoundOk C round)

 include hC hcall in
theorem range_sound {m : LMode} {n : Nat} {g : Operand} {ps : Array Tmp} {assign body : Code} (hok : codeOk n (.rangeFunc g ps assign body) = true) : CodeSound C call round m n (.rangeFunc g ps assign body) := by
  intro s e s' R F w0 a w Q hl hF h ha hQ
  simp only [codeOk, Bool.and_eq_true] at hok
  obtain ⟨⟨⟨ok1, ok2⟩, ok3⟩, ok4⟩ := hok
  have hloop : loopOk n ps assign body = true := by
    simp only [loopOk, Bool.and_eq_true]
    exact ⟨⟨⟨Nat.ble_eq_true_of_le ha.few, ok2⟩, ok3⟩, ok4⟩
  simp only [lcode] at hl
  split at hl
  · rename_i l mark H f first captured hent hg
    split at hl
    · rename_i fn hext hfn
      split at hl
      · rename_i v H' hc
        refine wpIn_rangeFunc fun fid _ => ?_
        obtain ⟨R1, w1, p, mark', g1, g2, g3, g4, g5⟩ := lenterLoop_ok hF h ha hloop hent fid C.P
        have hfv := ha.eval ok1
        rw [hg] at hfv
        have : ∃ a' c', a.eval g = .func (.func f) a' c' ∧ VRels R first.toList a'.toList ∧ VRels R captured.toList c'.toList := by
          generalize a.eval g = u at *
          cases hfv with
          | func _ _ h1 h2 ha' hc' =>
            exact ⟨_, _, rfl, ⟨by simpa using h1, fun i v v' p q => ha' i v v' (by simpa using p) (by simpa using q)⟩, ⟨by simpa using h2, fun i v v' p q => hc' i v v' (by simpa using p) (by simpa using q)⟩⟩
        obtain ⟨a', c', e1, e2, e3⟩ := this
        have hargs : VRels R1 ((first ++ #[Value.func (.yield l) #[] #[]] ++ captured).toList) ((a' ++ #[Value.func (.yield p.block) #[] #[]] ++ c').toList) := by
          have hy : VRels R1 [Value.func (.yield l) #[] #[]] [Value.func (.yield p.block) #[] #[]] := .cons (.yield g4) (.nil _)
          simpa using (e2.mono g2).append (hy.append (e3.mono g2))
        have henter := run_enterFunc hC hfn (a' ++ #[Value.func (.yield p.block) #[] #[]] ++ c') w1
        refine ⟨p.block, mark', w1, { target := .fn (.func f) c', args := a' ++ #[Value.func (.yield p.block) #[] #[]] }, w1, f, _, w1, g1, ?_, fun f' _ => hF.fn f', henter, fun hd => (by rw [hF.depth] at hd; cases hd), hF.calls (Calls.mono (hcall f _ H v H' hc R1 w0 w1 _ g3 hargs) fun en w3 he => ?_)⟩
        · have hm : (rangeCall g p.block).args.map a.eval = #[Value.func (.yield p.block) #[] #[]] := by simp [Act.eval]
          simp only [resolve, hm]
          show (Deferred.ofValue (a.eval g) _).run _ _ = _
          rw [e1]; rfl
        · cases en with
          | panicked ch => exact he.elim
          | outgrown => exact he.elim
          | returned v' =>
            obtain ⟨R3, q1, q2, q3⟩ := he
            unfold lend at hl
            split at hl
            · rename_i r hr
              obtain ⟨hat, hlt⟩ := lloopAt_at hr
              have hp3 := q1 _ _ g4
              obtain ⟨_, hholds⟩ := q3.get hat hp3
              cases hholds with
              | @loop _ r' qd hh k1 k2 k3 k4 k5 k6 k7 ht k8 =>
                have hbusy : ∀ {X : Option (LExit × LS)}, (match r.state with | .busy => none | _ => X) = some (e, s') → r.state ≠ .busy ∧ X = some (e, s') := fun {X} hx => by
                  split at hx
                  · cases hx
                  · rename_i hne; exact ⟨hne, hx⟩
                obtain ⟨hnb, hl⟩ := hbusy hl
                have hend := run_endLoop (P := C.P) hh (by rw [k1]; exact hnb)
                have hrel := q3.setObj hlt hp3 (x := .loop { r with state := .exhausted }) (o2 := .loop { r' with state := .exhausted }) hat fun w' hw => .loop (q := qd) hw rfl k2 k3 k4 k5 k6 k7 ht k8
                obtain ⟨W, hend, hrel⟩ : ∃ W, (Instr.endLoop p.block).run C.P w3 = .ok r'.pending W ∧ HRel R3 w0 (H'.put l (some (.loop { r with state := .exhausted }))) W := ⟨_, hend, hrel⟩
                have hle : R.le R3 := Ren.le_trans g2 q1
                have har : ARel R3 n { s with heap := H'.put l (some (.loop { r with state := .exhausted })), defers := mark ++ s.defers } { a with defers := mark' ++ a.defers } := by
                  refine ⟨ha.tmps.mono hle, ha.size, ?_, ha.few⟩
                  have hm := g5.mono q1
                  have hd := ha.defers.mono hle
                  refine ⟨by simp [hm.1, hd.1], fun i d d' x y => ?_⟩
                  simp only [List.getElem?_append] at x y
                  rw [hm.1] at x
                  split at x
                  · rename_i hlt'; rw [if_pos hlt'] at y; exact hm.2 i d d' x y
                  · rename_i hlt'; rw [if_neg hlt'] at y; exact hd.2 _ d d' x y
                refine ⟨r'.pending, _, hend, ?_⟩
                rw [k2]
                split at hl
                · rename_i hpe
                  injection hl with hl; injection hl with h1 h2; subst h1; subst h2
                  rw [hpe]
                  exact hQ R3 _ _ hle hrel har
                · rename_i hpe
                  injection hl with hl; injection hl with h1 h2; subst h1; subst h2
                  rw [hpe]
                  exact wpIn_ret (hQ R3 _ _ hle hrel har)
                · rename_i id hpe
                  injection hl with hl; injection hl with h1 h2; subst h1; subst h2
                  rw [hpe]
                  exact wpIn_exit (hQ R3 _ _ hle hrel har)
                · cases hl
            · cases hl
      · cases hl
    · cases hl
  · cases hl

 include hC hmix hcall hround in
/-- Code that the second run goes through does in the program what that run says. -/
theorem lcode_ok {m : LMode} {n : Nat} : ∀ (c : Code), codeOk n c = true → CodeSound C call round m n c := by
  intro c
  induction c with
  | skip => intro _ s e s' R F w0 a w Q hl hF h ha hQ; simp only [lcode] at hl; injection hl with hl; injection hl with h1 h2; subst h1; subst h2; exact wpIn_skip (hQ R a w (Ren.le_refl R) h ha)
  | label l => intro _ s e s' R F w0 a w Q hl hF h ha hQ; simp only [lcode] at hl; injection hl with hl; injection hl with h1 h2; subst h1; subst h2; exact wpIn_label (hQ R a w (Ren.le_refl R) h ha)
  | exit id => intro _ s e s' R F w0 a w Q hl hF h ha hQ; simp only [lcode] at hl; injection hl with hl; injection hl with h1 h2; subst h1; subst h2; exact wpIn_exit (hQ R a w (Ren.le_refl R) h ha)
  | ret => intro _ s e s' R F w0 a w Q hl hF h ha hQ; simp only [lcode] at hl; injection hl with hl; injection hl with h1 h2; subst h1; subst h2; exact wpIn_ret (hQ R a w (Ren.le_refl R) h ha)
  | region id ops draw => intro hok; exact region_sound hC hmix hcall hround hok
  | seq x y ihx ihy =>
    intro hok s e s' R F w0 a w Q hl hF h ha hQ
    simp only [codeOk, Bool.and_eq_true] at hok
    simp only [lcode] at hl
    split at hl
    · rename_i s1 hs
      exact wpIn_seq (ihx hok.1 s .normal s1 R F w0 a w _ hs hF h ha fun R' a' w' q1 q2 q3 => ihy hok.2 s1 e s' R' F w0 a' w' Q hl (hF.mono q1) q2 q3 (hQ.mono q1))
    · rename_i r hne
      have hen : e ≠ .normal := fun q => hne s' (by rw [hl, q])
      exact wpIn_seq (ihx hok.1 s e s' R F w0 a w _ hl hF h ha fun R' a' w' q1 q2 q3 => by rw [exit_to e hen]; exact hQ R' a' w' q1 q2 q3)
  | cond x c1 c2 ih1 ih2 =>
    intro hok s e s' R F w0 a w Q hl hF h ha hQ
    simp only [codeOk, Bool.and_eq_true] at hok
    simp only [lcode] at hl
    have hx := ha.eval hok.1.1
    split at hl
    · rename_i hb
      rw [hb] at hx
      have hx' : a.eval x = .bool true := by generalize a.eval x = u at *; cases hx; rfl
      exact wpIn_cond_true hx' (ih1 hok.1.2 s e s' R F w0 a w Q hl hF h ha hQ)
    · rename_i hb
      rw [hb] at hx
      have hx' : a.eval x = .bool false := by generalize a.eval x = u at *; cases hx; rfl
      exact wpIn_cond_false hx' (ih2 hok.2 s e s' R F w0 a w Q hl hF h ha hQ)
    · cases hl
  | block id c ih =>
    intro hok s e s' R F w0 a w Q hl hF h ha hQ
    simp only [codeOk] at hok
    simp only [lcode] at hl
    refine wpIn_block ?_
    split at hl
    · rename_i id' s1 hs
      refine ih hok s (.exit id') s1 R F w0 a w _ hs hF h ha fun R' a' w' q1 q2 q3 => ?_
      split at hl
      · rename_i hid
        injection hl with hl; injection hl with h1 h2; subst h1; subst h2
        have := beq_t hid
        subst this
        simp only [LExit.to, Exit.inBlock, if_true]
        exact hQ R' a' w' q1 q2 q3
      · rename_i hid
        injection hl with hl; injection hl with h1 h2; subst h1; subst h2
        have := beq_f hid
        simp only [LExit.to, Exit.inBlock, if_neg this]
        exact hQ R' a' w' q1 q2 q3
    · rename_i r hne
      refine ih hok s e s' R F w0 a w _ hl hF h ha fun R' a' w' q1 q2 q3 => ?_
      have := hQ R' a' w' q1 q2 q3
      cases e with
      | normal => exact this
      | ret => exact this
      | exit id' => exact absurd hl (hne id' s')
  | loop c ih => intro hok; exact iter_sound (ih (by simpa [codeOk] using hok))
  | rangeFunc g ps x y _ _ => intro hok; exact range_sound hC hcall hok
  | scope c _ => intro _ s e s' R F w0 a w Q hl; simp [lcode] at hl
  | goto l => intro _ s e s' R F w0 a w Q hl; simp [lcode] at hl
  | refuse why => intro _ s e s' R F w0 a w Q hl; simp [lcode] at hl
end
end Go.Proofs.YtiedaccgagnofaaGreat
