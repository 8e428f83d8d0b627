/- What the row of the law FnExactBusy asks of the program. -/
import Derived.Test.YtlijeincckbdaaaRows
import Derived.WalkKit
import Derived.ProofKit
import Derived.SizedLaws
namespace Go.Proofs.Ytlijeincckbdaaa.fnExactBusy
open Go.ChangeShapes Go.WideShapes Go.ChangeAt Go.RowKit
theorem closed : joinedFacts Try.prog 8 Try.f8 Rows.fnExactBusySpec Rows.fnExactBusyRow = true := by kernel_rfl
end Go.Proofs.Ytlijeincckbdaaa.fnExactBusy
