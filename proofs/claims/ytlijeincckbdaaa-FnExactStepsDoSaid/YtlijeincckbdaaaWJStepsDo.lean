/- What the row of the law FnExactStepsDo asks of the program. -/
import Derived.Test.YtlijeincckbdaaaRows
import Derived.WalkKit
import Derived.ProofKit
import Derived.SizedLaws
namespace Go.Proofs.Ytlijeincckbdaaa.fnExactStepsDo
open Go.ChangeShapes Go.WideShapes Go.ChangeAt Go.RowKit
theorem closed : joinedFacts Try.prog 14 Try.f14 Rows.fnExactStepsDoSpec Rows.fnExactStepsDoRow = true := by kernel_rfl
end Go.Proofs.Ytlijeincckbdaaa.fnExactStepsDo
