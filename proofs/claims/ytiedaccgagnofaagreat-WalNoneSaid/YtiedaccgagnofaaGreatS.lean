/- One operation of a region as steps of the machine, in an activation, in a round of a loop, and in a deferred call that finds no panic. -/
import Derived.Test.YtiedaccgagnofaaGreatR
namespace Go.Proofs.YtiedaccgagnofaaGreat
open Go.RowKit

/-- The frames that are so. -/
def Good (R : Ren) : LMode → Frame → List Frame → Prop
  | .plain, b, _ => b.roundOf = none
  | .round l, b, _ => ∃ p, R l = some p ∧ b.roundOf = some p.block
  | .deferred, b, cs => b.roundOf = none ∧ b.kind = .deferred ∧ recoverD cs = none
theorem Good.mono {R R' : Ren} (hR : R.le R') {m : LMode} {b : Frame} {cs : List Frame} (h : Good R m b cs) : Good R' m b cs := by
  cases m with
  | plain => exact h
  | round l => obtain ⟨p, h1, h2⟩ := h; exact ⟨p, hR _ _ h1, h2⟩
  | deferred => exact h

/-- What the rest must be ready for, whatever an operation comes to. -/
def UponW (P : Program) (m : LMode) (o : Oper) (a : Act) (K : Act → World → Prop) : Result Next → Prop
  | .ok (.value v) w' => K (a.put o.dst v) w'
  | .ok .skip w' => K (a.put o.dst undef) w'
  | .ok (.defer d) w' => (∀ l, m ≠ .round l) ∧ K ({ a with defers := d :: a.defers }.put o.dst undef) w'
  | .ok (.enter f args) w' => Calls P f args w' fun
      | .returned v, w'' => K (a.put o.dst v) w''
      | _, _ => False
  | .ok (.round l f tmps assign body) w' => RoundIn Fence.wide 0 P l f tmps assign body w' fun
      | .returned v, w'' => K (a.put o.dst v) w''
      | _, _ => False
  | .ok .recover w' => m = .deferred ∧ K (a.put o.dst .nilIface) w'
  | _ => False

theorem UponW.mono {P : Program} {m : LMode} {o : Oper} {a : Act} {K K' : Act → World → Prop} (h : ∀ a w, K a w → K' a w) {r : Result Next} (hu : UponW P m o a K r) : UponW P m o a K' r := by
  cases r with
  | ok x w' =>
    cases x <;> simp only [UponW] at hu ⊢ <;>
      first
        | exact h _ _ hu
        | exact ⟨hu.1, h _ _ hu.2⟩
        | exact Calls.mono hu (fun e w'' he => by cases e <;> first | exact h _ _ he | exact he)
        | exact RoundIn.mono hu (fun e w'' he => by cases e <;> first | exact h _ _ he | exact he)
  | halt x w' => exact hu

section
variable {P : Program} {ops : Array Oper} {b : Frame} {a : Act} {k : List Item} {cs : List Frame} {w : World}

theorem finish_op (i : Nat) (rest : List Nat) {o : Oper} (ho : ops[i]? = some o) (v : Value) : (b.atR a (.inRegion ops (i :: rest) :: k)).finish v = b.atR (a.put o.dst v) (.inRegion ops rest :: k) := by
  rw [Frame.finish_atR, ho]; rfl

/-- The steps of one operation that is wanted. -/
theorem op_steps {R : Ren} {m : LMode} {i : Nat} {rest : List Nat} {o : Oper} {K : Act → World → Prop} (hg : Good R m b cs) (ho : ops[i]? = some o) (hw : Region.wanted o (yielded ops a.tmps) = true)
    (hu : UponW P m o a K ((execOp a.eval o).run P w)) :
    ∃ a' w', K a' w' ∧ Steps P (lone (b.atR a (.inRegion ops (i :: rest) :: k)) cs w) (lone (b.atR a' (.inRegion ops rest :: k)) cs w') := by
  have hs := stepGR_op (P := P) (b := b) (k := k) (cs := cs) (w := w) (rest := rest) ho hw
  have hfin := fun v => finish_op (b := b) (a := a) (k := k) i rest ho v
  have hsem : o.semAt b.roundOf a.eval = execOp a.eval o ∨ ∃ c l, o.op = .defer c ∧ m = .round l := by
    cases hm : m with
    | plain => left; rw [hm] at hg; rw [show b.roundOf = none from hg]; rfl
    | deferred => left; rw [hm] at hg; rw [show b.roundOf = none from hg.1]; rfl
    | round l =>
      cases hop : o.op with
      | defer c => exact .inr ⟨c, l, rfl, rfl⟩
      | _ => exact .inl (Oper.semAt_eq _ _ _ fun c e => by rw [hop] at e; cases e)
  rcases hsem with hsem | ⟨c, l, hop, hm⟩
  · rw [hsem] at hs
    generalize hr : (execOp a.eval o).run P w = r at hu
    cases r with
    | halt x w' => exact hu.elim
    | ok x w' =>
      cases x with
      | value v =>
        refine ⟨_, _, hu, .one (step_lone_go ?_)⟩
        rw [hs, ← hfin]; simp [stepG.apply, hr]
      | skip =>
        refine ⟨_, _, hu, .one (step_lone_go ?_)⟩
        rw [hs, ← hfin]; simp [stepG.apply, hr]
      | defer d =>
        refine ⟨_, _, hu.2, .one (step_lone_go ?_)⟩
        have : ({ b.atR a (.inRegion ops (i :: rest) :: k) with defers := d :: a.defers } : Frame).finish undef =
            b.atR ({ a with defers := d :: a.defers }.put o.dst undef) (.inRegion ops rest :: k) := by
          have := Frame.finish_atR b { a with defers := d :: a.defers } ops i rest k undef
          rw [ho] at this; exact this
        rw [hs]; simp only [stepG.apply, Sem.runT_eq, hr, GStep.bare_after]
        exact congrArg (fun fr => GStep.go { frame := fr, callers := cs, status := .running, dying := none } w') this
      | enter f args =>
        obtain ⟨e, w'', fr, hR, hsteps, _, hleave⟩ := hu (b.atR a (.inRegion ops (i :: rest) :: k) :: cs)
        cases e with
        | returned v =>
          have henter : step P (lone (b.atR a (.inRegion ops (i :: rest) :: k)) cs w) =
              .next (lone (Frame.enter P f args .normal) (b.atR a (.inRegion ops (i :: rest) :: k) :: cs) w') :=
            step_lone_go (by rw [hs]; simp [stepG.apply, hr, Frame.atR])
          refine ⟨_, _, hR, .head henter (Steps.trans hsteps (.one ?_))⟩
          rw [← hfin]; exact step_leave_returned hleave
        | panicked chain => exact hR.elim
        | outgrown => exact hR.elim
      | round l f tmps assign body =>
        obtain ⟨e, w'', hR, hsteps⟩ := hu.2 (b.atR a (.inRegion ops (i :: rest) :: k)) cs (room_wide _)
        cases e with
        | returned v =>
          have henter : step P (lone (b.atR a (.inRegion ops (i :: rest) :: k)) cs w) =
              .next (lone (Frame.round l f tmps assign body .normal) (b.atR a (.inRegion ops (i :: rest) :: k) :: cs) w') :=
            step_lone_go (by rw [hs]; simp [stepG.apply, hr, Frame.atR])
          refine ⟨_, _, hR, .head henter ?_⟩
          rw [← hfin]; exact stepsIn_wide.1 hsteps
        | panicked chain => exact hR.elim
        | outgrown => exact hR.elim
      | recover =>
        obtain ⟨hm, hK⟩ := hu
        subst hm
        obtain ⟨g1, g2, g3⟩ := hg
        refine ⟨_, _, hK, .one (step_lone_go ?_)⟩
        have hk : (b.atR a (.inRegion ops (i :: rest) :: k)).kind = .deferred := g2
        have htr := tryRecover_deferred hk cs
        rw [g3] at htr
        rw [hs, ← hfin]
        simp only [Frame.atR, g1] at htr ⊢
        simp [stepG.apply, hr, htr]
      | _ => exact hu.elim
  · exfalso
    subst hm
    have : ∃ r, (execOp a.eval o).run P w = r ∧ ∀ x w', r = .ok x w' → ∃ d, x = .defer d := by
      refine ⟨_, rfl, fun x w' e => ?_⟩
      unfold execOp at e
      simp only [hop, Sem.run_bind] at e
      cases hq : (resolve a.eval c o.type).run P w with
      | ok d w1 => rw [hq] at e; simp [Result.andThen] at e; exact ⟨d, e.1.symm⟩
      | halt y w1 => rw [hq] at e; simp [Result.andThen] at e
    obtain ⟨r, h1, h2⟩ := this
    rw [h1] at hu
    cases r with
    | halt x w' => exact hu
    | ok x w' =>
      obtain ⟨d, rfl⟩ := h2 x w' rfl
      exact hu.1 l rfl
end
end Go.Proofs.YtiedaccgagnofaaGreat
