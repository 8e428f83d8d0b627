/- What the row of the law FnExactDriveRot asks of the program. -/
import Derived.Test.YtlijeincckbdaaaRows
import Derived.WalkKit
import Derived.ProofKit
import Derived.SizedLaws
namespace Go.Proofs.Ytlijeincckbdaaa.fnExactDriveRot
open Go.ChangeShapes Go.WideShapes Go.ChangeAt Go.RowKit
theorem closed : joinedFacts Try.prog 3 Try.f3 Rows.fnExactDriveRotSpec Rows.fnExactDriveRotRow = true := by kernel_rfl
end Go.Proofs.Ytlijeincckbdaaa.fnExactDriveRot
