/- What the row of the law FnExactRemoveSteps asks of the program. -/
import Derived.Test.YtlijeincckbdaaaRows
import Derived.WalkKit
import Derived.ProofKit
import Derived.SizedLaws
namespace Go.Proofs.Ytlijeincckbdaaa.fnExactRemoveSteps
open Go.ChangeShapes Go.WideShapes Go.ChangeAt Go.RowKit
theorem closed : joinedFacts Try.prog 5 Try.f5 Rows.fnExactRemoveStepsSpec Rows.fnExactRemoveStepsRow = true := by kernel_rfl
end Go.Proofs.Ytlijeincckbdaaa.fnExactRemoveSteps
