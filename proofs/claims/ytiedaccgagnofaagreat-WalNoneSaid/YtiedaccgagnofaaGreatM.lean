/- Each operation of the second run, beside the program's own. -/
import Derived.Test.YtiedaccgagnofaaGreatL
namespace Go.Proofs.YtiedaccgagnofaaGreat
open Go.RowKit

/-- A deferred call, or a mark. -/
inductive DRel (R : Ren) : Deferred → Deferred → Prop where
  | call (f : FuncId) {c c' a a' : Array Value} (hc : VRels R c.toList c'.toList) (ha : VRels R a.toList a'.toList) : DRel R { target := .fn (.func f) c, args := a } { target := .fn (.func f) c', args := a' }
  | mark {id : Nat} {p : Place} (h : R id = some p) : DRel R { target := .collected id, args := #[] } { target := .collected p.block, args := #[] }
theorem DRel.mono {R R' : Ren} (hR : R.le R') {d d' : Deferred} (h : DRel R d d') : DRel R' d d' := by
  cases h with
  | call f hc ha => exact .call f (hc.mono hR) (ha.mono hR)
  | mark h => exact .mark (hR _ _ h)

/-- What a round of a loop over a function begins with. -/
def roundTmps (r : Loop) (args : Array Value) : Array Value := (r.params.zip args).foldl (fun tmps (t, a) => tmps.setIfInBounds t a) r.tmps

/-- What an operation comes to, the one way and the other. -/
inductive NRel (R : Ren) (w : World) : LNext → Next → Prop where
  | value {v v' : Value} (h : VRel R v v') : NRel R w (.value v) (.value v')
  | skip : NRel R w .skip .skip
  | recover : NRel R w .recover .recover
  | defer {d d' : Deferred} (h : DRel R d d') : NRel R w (.defer d) (.defer d')
  | enter (f : FuncId) {args : List Value} {args' : Array Value} (h : VRels R args args'.toList) : NRel R w (.enter f args) (.enter f args')
  | round {l : Nat} {p : Place} {r : Loop} {args : List Value} {args' : Array Value} (h : R l = some p) (hr : w.heap[p.block]? = some (.loop r)) (ha : VRels R args args'.toList) (hz : args'.size = r.params.size) :
      NRel R w (.round l args) (.round p.block r.fn (roundTmps r args') r.assign r.body)

/-- The tables are right; what is told outright is so. -/
structure Ctx.Sound (C : Ctx) : Prop where
  tab : C.toTab.Ok C.P
  fn : ∀ f g, C.fn f = some g → C.P.funcs[f]? = some g ∧ g.body.isSome = true ∧ (g.name == "runtime.NumGoroutine") = false
  meth : ∀ t n f, C.meth t n = some f → ∃ i m, C.P.info? t = some i ∧ i.methods.find? (fun m => m.name == n) = some m ∧ m.path = #[] ∧ m.func = some (f, false) ∧ ∃ d, C.P.underlying t = some d ∧ ∀ e, d ≠ .pointer e
  ext : ∀ f e, C.ext f = some e → ∀ (R : Ren) (w0 : Fr) (H H' : LH) (w : World) (args : List Value) (args' : Array Value) (v : Value), HRel R w0 H w → VRels R args args'.toList → e args H = some (v, H') →
    ∃ R' v' w', (callFunc f args').run C.P w = .ok (.value v') w' ∧ R.le R' ∧ VRel R' v v' ∧ HRel R' w0 H' w'

theorem extract_tail (xs : Array Value) : (xs.extract 1 xs.size).toList = xs.toList.drop 1 := by
  rw [Array.toList_extract, List.extract_eq_take_drop, List.take_of_length_le (by simp)]

theorem lloopAt_at {H : LH} {l : Nat} {r : LLoop} (h : lloopAt H l = some r) : H.at l = some (.loop r) ∧ (0 : Nat) < 1 := by
  unfold lloopAt at h
  split at h
  · rename_i r' h1 h2
    injection h with h; subst h
    exact ⟨h1, Nat.zero_lt_one⟩
  · cases h

section
variable {C : Ctx} (hC : C.Sound) {R : Ren} {w0 : Fr} {w : World} {H H' : LH}
 include hC

theorem run_enterFunc {f : FuncId} {g : Func} (h : C.fn f = some g) (args : Array Value) (w : World) : (callFunc f args).run C.P w = .ok (.enter f args) w := by
  obtain ⟨h1, h2, h3⟩ := hC.fn f g h
  have hn : g.body ≠ none := fun e => by rw [e] at h2; cases h2
  have h4 : g.name ≠ "runtime.NumGoroutine" := fun e => by rw [e] at h3; simp at h3
  simp [callFunc, program, Sem.run, h1, h4, hn]

theorem lenter_ok {f : FuncId} {args : Array Value} {args' : Array Value} {x : LNext} (h : HRel R w0 H w) (ha : VRels R args.toList args'.toList) (hl : lenter C H f args = some (x, H')) :
    ∃ R' w' y, (callFunc f args').run C.P w = .ok y w' ∧ R.le R' ∧ HRel R' w0 H' w' ∧ NRel R' w' x y := by
  unfold lenter at hl
  split at hl
  · rename_i e he
    split at hl
    · rename_i v H1 hv
      injection hl with hl; injection hl with h1 h2; subst h1; subst h2
      obtain ⟨R', v', w', g1, g2, g3, g4⟩ := hC.ext f e he R w0 H H1 w _ _ v h ha hv
      exact ⟨R', w', _, g1, g2, g4, .value g3⟩
    · cases hl
  · split at hl
    · rename_i g hg
      injection hl with hl; injection hl with h1 h2; subst h1; subst h2
      exact ⟨R, w, _, run_enterFunc hC hg _ _, Ren.le_refl R, h, .enter f ha⟩
    · cases hl

theorem run_method {t : TypeId} {v : Value} {n : String} {f : FuncId} (hm : C.meth t n = some f) (w : World) (k : Nat) : (method (k + 1) t v n).run C.P w = .ok (f, v) w := by
  obtain ⟨i, m, h1, h2, h3, h4, d, h5, h6⟩ := hC.meth t n f hm
  have hd : (match d with | .pointer e => true | _ => false) = false := by cases d <;> first | rfl | exact absurd rfl (h6 _)
  cases d <;> first | exact absurd rfl (h6 _) | simp [method, typeInfo, h1, h2, h3, h4, follow, receiverAt, run_underlying h5, Place.get]

theorem lmethod_ok {r r' : Value} {name : String} {args args' : Array Value} {x : LNext} (h : HRel R w0 H w) (hr : VRel R r r') (ha : VRels R args.toList args'.toList) (hl : lmethod C H r name args = some (x, H')) :
    ∃ R' w' y, (callMethod r' name args').run C.P w = .ok y w' ∧ R.le R' ∧ HRel R' w0 H' w' ∧ NRel R' w' x y := by
  unfold lmethod at hl
  split at hl
  · rename_i t v
    split at hl
    · rename_i f hf
      cases hr with
      | @iface _ _ v' hv =>
        have hargs : VRels R (#[v] ++ args).toList (#[v'] ++ args').toList := by simpa using VRels.cons hv ha
        obtain ⟨R', w', y, g1, g2, g3, g4⟩ := lenter_ok hC h hargs hl
        refine ⟨R', w', y, ?_, g2, g3, g4⟩
        have hmm := run_method hC (v := v') hf w (C.P.types.size + 99)
        have hd : C.P.types.size + Made.depth = C.P.types.size + 99 + 1 := rfl
        simp only [callMethod, Sem.run_bind, program, Sem.run, Result.andThen_ok]
        rw [hd, hmm]
        exact g1
    · cases hl
  · cases hl

theorem lcallv_ok {fv fv' : Value} {args args' : Array Value} {x : LNext} (h : HRel R w0 H w) (hf : VRel R fv fv') (ha : VRels R args.toList args'.toList) (hl : lcallv C H fv args = some (x, H')) :
    ∃ R' w' y, (do let d ← Deferred.ofValue fv' args'; invoke d.target d.args : Sem Next).run C.P w = .ok y w' ∧ R.le R' ∧ HRel R' w0 H' w' ∧ NRel R' w' x y := by
  unfold lcallv at hl
  split at hl
  · rename_i f first captured
    cases hf with
    | @func _ hcalm _ a' _ c' h1 h2 ha' hc' =>
      have hargs : VRels R (first ++ args ++ captured).toList (a' ++ args' ++ c').toList := by
        have e1 : VRels R first.toList a'.toList := ⟨by simpa using h1, fun i v v' p q => ha' i v v' (by simpa using p) (by simpa using q)⟩
        have e2 : VRels R captured.toList c'.toList := ⟨by simpa using h2, fun i v v' p q => hc' i v v' (by simpa using p) (by simpa using q)⟩
        simpa using e1.append (ha.append e2)
      obtain ⟨R', w', y, g1, g2, g3, g4⟩ := lenter_ok hC h hargs hl
      exact ⟨R', w', y, by simpa [Deferred.ofValue, invoke] using g1, g2, g3, g4⟩
  · rename_i name first captured
    split at hl
    · rename_i r hr0
      cases hf with
      | @func _ hcalm _ a' _ c' h1 h2 ha' hc' =>
        have e1 : VRels R first.toList a'.toList := ⟨by simpa using h1, fun i v v' p q => ha' i v v' (by simpa using p) (by simpa using q)⟩
        have hfa : VRels R (first ++ args).toList (a' ++ args').toList := by simpa using e1.append ha
        obtain ⟨r', q1, q2⟩ := hfa.get (i := 0) (v := r) (by rw [Array.getElem?_toList]; exact hr0)
        have hrest : VRels R ((first ++ args).extract 1 (first ++ args).size).toList ((a' ++ args').extract 1 (a' ++ args').size).toList := by
          rw [extract_tail, extract_tail]
          exact hfa.drop 1
        obtain ⟨R', w', y, g1, g2, g3, g4⟩ := lmethod_ok hC h q2 hrest hl
        refine ⟨R', w', y, ?_, g2, g3, g4⟩
        have q1' : (a' ++ args')[0]? = some r' := by rw [← Array.getElem?_toList]; exact q1
        simp only [Deferred.ofValue, Sem.run_bind, Sem.run_pure, Result.andThen_ok, invoke, q1']
        exact g1
    · cases hl
  · rename_i l first captured
    split at hl
    · rename_i z1 z2
      split at hl
      · rename_i r hr
        split at hl
        · rename_i hn
          injection hl with hl; injection hl with h1 h2; subst h1; subst h2
          have e1 : first = #[] := Array.eq_empty_of_size_eq_zero z1
          have e2 : captured = #[] := Array.eq_empty_of_size_eq_zero z2
          subst e1; subst e2
          have hat := lloopAt_at hr
          cases hf with
          | func _ hcalm => simp [calm] at hcalm
          | @yield _ p hp =>
            cases (h.get hat.1 hp).2 with
            | @loop _ r' q hh k1 k2 k3 k4 k5 k6 k7 ht k8 =>
              have hsz : args'.size = r'.params.size := by
                have := ha.1
                rw [k3, ← beq_t hn]; simpa using this.symm
              refine ⟨R, w, _, ?_, Ren.le_refl R, h, .round hp hh ha hsz⟩
              have hgo : (getObj p.block).run C.P w = .ok (.loop r') w := run_getObj_at hh (fun _ _ _ => by simp)
              simp [Deferred.ofValue, invoke, Instr.yield, Instr.getLoop, Sem.run_bind, hgo, hsz, roundTmps]
        · cases hl
      · cases hl
    · cases hl
  · cases hl
end
end Go.Proofs.YtiedaccgagnofaaGreat
