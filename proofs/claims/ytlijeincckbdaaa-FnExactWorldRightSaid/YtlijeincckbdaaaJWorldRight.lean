/- What the row of the law FnExactWorldRight asks of the program. -/
import Derived.Test.YtlijeincckbdaaaRows
import Derived.WalkKit
import Derived.ProofKit
import Derived.SizedLaws
namespace Go.Proofs.Ytlijeincckbdaaa.fnExactWorldRight
open Go.ChangeShapes Go.WideShapes Go.ChangeAt Go.RowKit
theorem closed : joinedFacts Try.prog 7 Try.f7 Rows.fnExactWorldRightSpec Rows.fnExactWorldRightRow = true := by kernel_rfl
end Go.Proofs.Ytlijeincckbdaaa.fnExactWorldRight
