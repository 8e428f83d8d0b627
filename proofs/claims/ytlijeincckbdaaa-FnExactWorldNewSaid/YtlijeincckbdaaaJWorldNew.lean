/- What the row of the law FnExactWorldNew asks of the program. -/
import Derived.Test.YtlijeincckbdaaaRows
import Derived.WalkKit
import Derived.ProofKit
import Derived.SizedLaws
namespace Go.Proofs.Ytlijeincckbdaaa.fnExactWorldNew
open Go.ChangeShapes Go.WideShapes Go.ChangeAt Go.RowKit
theorem closed : joinedFacts Try.prog 11 Try.f11 Rows.fnExactWorldNewSpec Rows.fnExactWorldNewRow = true := by kernel_rfl
end Go.Proofs.Ytlijeincckbdaaa.fnExactWorldNew
