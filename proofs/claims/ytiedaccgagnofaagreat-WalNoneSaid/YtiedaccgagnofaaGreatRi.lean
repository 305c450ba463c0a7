/- Code: control, loops, ranges over functions. -/
import Derived.Test.YtiedaccgagnofaaGreatRh
import Derived.RangeFuncCalls
import Derived.RangeFuncRecord
namespace Go.Proofs.YtiedaccgagnofaaGreat
open Go.RowKit

def LExit.to : LExit → Exit
  | .normal => .normal
  | .exit id => .exit id
  | .ret => .ret

/-- The fence that goes with an activation's standing. -/
def FenceOf (R : Ren) : LMode → Fence → Prop
  | .plain, F => F = Fence.wide
  | .round l, F => ∃ p, R l = some p ∧ F = Fence.wide.inRound p.block
  | .deferred, _ => False
theorem FenceOf.mono {R R' : Ren} (hR : R.le R') {m : LMode} {F : Fence} (h : FenceOf R m F) : FenceOf R' m F := by
  cases m with
  | plain => exact h
  | round l => obtain ⟨p, h1, h2⟩ := h; exact ⟨p, hR _ _ h1, h2⟩
  | deferred => exact h
theorem FenceOf.good {R : Ren} {m : LMode} {F : Fence} (h : FenceOf R m F) {b : Frame} (hb : b.roundOf = F.round) (cs : List Frame) : Good R m b cs := by
  cases m with
  | plain => rw [show F = Fence.wide from h] at hb; exact hb
  | round l => obtain ⟨p, h1, h2⟩ := h; rw [h2] at hb; exact ⟨p, h1, hb⟩
  | deferred => exact h.elim
theorem FenceOf.steps {R : Ren} {m : LMode} {F : Fence} (h : FenceOf R m F) {P : Program} {x y : Machine} : StepsIn (Machine.fenced P F) P x y ↔ Steps P x y := by
  cases m with
  | plain => rw [show F = Fence.wide from h]; exact stepsIn_wide
  | round l => obtain ⟨p, h1, h2⟩ := h; rw [h2, fenced_inRound]; exact stepsIn_wide
  | deferred => exact h.elim
theorem FenceOf.fn {R : Ren} {m : LMode} {F : Fence} (h : FenceOf R m F) (f : FuncId) : F.fn f := by
  cases m with
  | plain => rw [show F = Fence.wide from h]; exact trivial
  | round l => obtain ⟨p, h1, h2⟩ := h; rw [h2]; exact trivial
  | deferred => exact h.elim
theorem FenceOf.depth {R : Ren} {m : LMode} {F : Fence} (h : FenceOf R m F) : F.depth = none := by
  cases m with
  | plain => rw [show F = Fence.wide from h]; rfl
  | round l => obtain ⟨p, h1, h2⟩ := h; rw [h2]; rfl
  | deferred => exact h.elim
theorem FenceOf.calls {R : Ren} {m : LMode} {F : Fence} (h : FenceOf R m F) {n : Nat} {P : Program} {f : FuncId} {args : Array Value} {w : World} {Q : Ending → World → Prop} (hc : Calls P f args w Q) : CallsIn F n P f args w Q := by
  cases m with
  | plain => rw [show F = Fence.wide from h]; exact callsIn_wide.2 hc
  | round l => obtain ⟨p, h1, h2⟩ := h; rw [h2]; exact CallsIn.inRound _ (callsIn_wide.2 hc)
  | deferred => exact h.elim

/-- A loop, its rounds counted. -/
theorem wpIn_rounds {F : Fence} {n : Nat} {P : Program} {Q : Exit → Act → World → Prop} {c : Code} (X : Nat → Act → World → Prop)
    (hX : ∀ j a w, X j a w → c.wpIn F n P (Exit.then (fun a' w' => ∃ i, i < j ∧ X i a' w') Q) a w) {j : Nat} {a : Act} {w : World} (h : X j a w) : (Code.loop c).wpIn F n P Q a w := by
  intro b k cs hro hb hr
  have key : ∀ j a w, X j a w → ∃ e a' w', Q e a' w' ∧ ArrivesIn (Machine.fenced P F) P (lone (b.atR a (.code c :: .inLoop c :: k)) cs w) b k cs e a' w' := by
    intro j
    induction j using Nat.strongRecOn with
    | ind j ih =>
      intro a w hx
      obtain ⟨e, a₁, w₁, hq, harr⟩ := hX j a w hx b (.inLoop c :: k) cs hro hb hr
      have out : ∀ e, e ≠ .normal → Q e a₁ w₁ → ArrivesIn (Machine.fenced P F) P (lone (b.atR a (.code c :: .inLoop c :: k)) cs w) b (.inLoop c :: k) cs e a₁ w₁ →
          ∃ e a' w', Q e a' w' ∧ ArrivesIn (Machine.fenced P F) P (lone (b.atR a (.code c :: .inLoop c :: k)) cs w) b k cs e a' w' :=
        fun e hne hq harr => ⟨e, a₁, w₁, hq, .pass (x := .inLoop c) rfl (fun _ _ => .inl hne) harr⟩
      cases e with
      | normal =>
        obtain ⟨i, hi, hx'⟩ := hq
        obtain ⟨e₂, a₂, w₂, hq₂, harr₂⟩ := ih i hi a₁ w₁ hx'
        exact ⟨e₂, a₂, w₂, hq₂, .of_steps (StepsIn.trans harr (.one (fenced_calm hb hr rfl) stepR_inLoop)) harr₂⟩
      | exit id => exact out _ (by simp) hq harr
      | goto l => exact out _ (by simp) hq harr
      | ret => exact out _ (by simp) hq harr
      | panic ch => exact out _ (by simp) hq harr
      | outgrown => exact out _ (by simp) hq harr
  obtain ⟨e, a', w', hq, harr⟩ := key j a w h
  exact ⟨e, a', w', hq, .of_steps (.one (fenced_calm hb hr rfl) stepR_loop) harr⟩

/-- What code must come to. -/
def After (R : Ren) (w0 : Fr) (n : Nat) (e : LExit) (s' : LS) (Q : Exit → Act → World → Prop) : Prop := ∀ R' a' w', R.le R' → HRel R' w0 s'.heap w' → ARel R' n s' a' → Q e.to a' w'
theorem After.mono {R R' : Ren} (hR : R.le R') {w0 : Fr} {n : Nat} {e : LExit} {s' : LS} {Q : Exit → Act → World → Prop} (h : After R w0 n e s' Q) : After R' w0 n e s' Q := fun R'' a' w' h1 h2 h3 => h R'' a' w' (Ren.le_trans hR h1) h2 h3

section
variable {C : Ctx} (hC : C.Sound) (hmix : C.P.follows .mixedOrders = true) {call : LCall} {round : LRound} (hcall : CallOk C call) (hround : RoundOk C round)

/-- What is claimed of a piece of code. -/
def CodeSound (C : Ctx) (call : LCall) (round : LRound) (m : LMode) (n : Nat) (c : Code) : Prop := ∀ (s : LS) (e : LExit) (s' : LS) (R : Ren) (F : Fence) (w0 : Fr) (a : Act) (w : World) (Q : Exit → Act → World → Prop),
  lcode C call round m c s = some (e, s') → FenceOf R m F → HRel R w0 s.heap w → ARel R n s a → After R w0 n e s' Q → c.wpIn F 0 C.P Q a w

 include hC hmix hcall hround in
theorem region_sound {m : LMode} {n : Nat} {id : Nat} {ops : Array Oper} {draw : Bool} (hok : ops.toList.all (operOk n) = true) : CodeSound C call round m n (.region id ops draw) := by
  intro s e s' R F w0 a w Q hl hF h ha hQ b k cs hro hb hr
  have hg := hF.good hro cs
  have hf0 : ∀ w, (lone (b.atR a (.code (.region id ops draw) :: k)) cs w).fenced C.P F := fun w => fenced_calm hb hr rfl
  cases draw with
  | false =>
    simp only [lcode] at hl
    split at hl
    · rename_i s1 hs
      injection hl with hl; injection hl with h1 h2; subst h1; subst h2
      obtain ⟨R', a', w', g1, g2, g3, g4⟩ := lops_ok hC hcall hround (List.range ops.size) ops.toList s s1 R a w (by
        apply List.ext_getElem?
        intro i
        simp only [List.getElem?_map, Array.getElem?_toList]
        rcases Nat.lt_or_ge i ops.size with q | q
        · rw [List.getElem?_range q, Array.getElem?_eq_getElem q]; simp
        · rw [List.getElem?_eq_none (by simpa using q), Array.getElem?_eq_none q]; rfl) hok hg h ha hs
      exact ⟨.normal, a', w', hQ R' a' w' g1 g2 g3, hF.steps.2 (.head stepR_region g4)⟩
    · cases hl
  | true =>
    simp only [lcode] at hl
    split at hl
    · rename_i s1 hs
      injection hl with hl; injection hl with h1 h2; subst h1; subst h2
      obtain ⟨R', a', w', g1, g2, g3, g4⟩ := ldraw_ok hC hcall hround (b := b) (cs := cs) (kk := k) (w := { w with drawn := w.drawn + 1 }) (w.tape w.drawn (.order b.fn id)) hok hg h.drew ha hs
      refine ⟨.normal, a', w', hQ R' a' w' g1 g2 g3, hF.steps.2 (.head stepR_region_draw ?_)⟩
      rw [hmix]
      exact g4
    · cases hl

theorem exit_to (e : LExit) (h : e ≠ .normal) {K : Act → World → Prop} {Q : Exit → Act → World → Prop} : Exit.then K Q e.to = Q e.to := by
  cases e <;> first | exact absurd rfl h | rfl

theorem iter_sound {m : LMode} {n : Nat} {c : Code} (ih : CodeSound C call round m n c) : CodeSound C call round m n (.loop c) := by
  intro s e s' R F w0 a w Q hl hF h ha hQ
  simp only [lcode] at hl
  refine wpIn_rounds (fun j a w => ∃ s1 R1, R.le R1 ∧ literate (lcode C call round m c) j s1 = some (e, s') ∧ HRel R1 w0 s1.heap w ∧ ARel R1 n s1 a) ?_ (j := lrounds) ⟨s, R, Ren.le_refl R, hl, h, ha⟩
  rintro j a1 w1 ⟨s1, R1, k1, k2, k3, k4⟩
  cases j with
  | zero => simp [literate] at k2
  | succ j =>
    simp only [literate] at k2
    split at k2
    · rename_i s2 hs2
      exact ih s1 .normal s2 R1 F w0 a1 w1 _ hs2 (hF.mono k1) k3 k4 fun R' a' w' q1 q2 q3 => ⟨j, by omega, s2, R', Ren.le_trans k1 q1, k2, q2, q3⟩
    · rename_i r hne
      have hen : e ≠ .normal := fun q => hne s' (by rw [k2, q])
      refine ih s1 e s' R1 F w0 a1 w1 _ k2 (hF.mono k1) k3 k4 fun R' a' w' q1 q2 q3 => ?_
      rw [exit_to e hen]
      exact hQ R' a' w' (Ren.le_trans k1 q1) q2 q3
end
end Go.Proofs.YtiedaccgagnofaaGreat
