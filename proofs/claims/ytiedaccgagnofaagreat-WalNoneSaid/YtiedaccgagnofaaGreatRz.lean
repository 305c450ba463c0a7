/- The second run of begun, reckoned by the kernel. -/
import Derived.Test.YtiedaccgagnofaaGreatRm
namespace Go.Proofs.YtiedaccgagnofaaGreat
open Go.RowKit
set_option maxRecDepth 1000000
theorem begun_run : (match lcall CT0 40 8 [] .empty with | some (.bool true, _) => true | _ => false) = true := by kernel_rfl
end Go.Proofs.YtiedaccgagnofaaGreat
