/- What the row of the law FnExactCleanSteps asks of the program. -/
import Derived.Test.YtlijeincckbdaaaRows
import Derived.WalkKit
import Derived.ProofKit
import Derived.SizedLaws
namespace Go.Proofs.Ytlijeincckbdaaa.fnExactCleanSteps
open Go.ChangeShapes Go.WideShapes Go.ChangeAt Go.RowKit
theorem closed : joinedFacts Try.prog 4 Try.f4 Rows.fnExactCleanStepsSpec Rows.fnExactCleanStepsRow = true := by kernel_rfl
end Go.Proofs.Ytlijeincckbdaaa.fnExactCleanSteps
