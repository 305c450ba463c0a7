/- begun, as a contract. -/
import Derived.Test.YtiedaccgagnofaaGreatRn
import Derived.Test.YtiedaccgagnofaaGreatRz
namespace Go.Proofs.YtiedaccgagnofaaGreat
open Go.RowKit

theorem begun_ok (w : World) : Calls Tryz.prog 8 #[] w fun e w' => e = .returned (.bool true) ∧ Below w.heap.size w w' := by
  have h := begun_run
  revert h
  generalize hx : lcall CT0 40 8 [] .empty = x
  intro h
  split at h
  · rename_i H
    refine Calls.mono (lcall_ok (CT0_good room_spec) hx w) fun e w' he => ?_
    cases e with
    | returned v =>
      obtain ⟨R, h1, h2⟩ := he
      cases h1
      exact ⟨rfl, h2.below_all⟩
    | panicked c => exact he.elim
    | outgrown => exact he.elim
  · cases h
end Go.Proofs.YtiedaccgagnofaaGreat
