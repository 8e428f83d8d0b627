/- What the row of the law FnExactDriveDo asks of the program. -/
import Derived.Test.YtlijeincckbdaaaRows
import Derived.WalkKit
import Derived.ProofKit
import Derived.SizedLaws
namespace Go.Proofs.Ytlijeincckbdaaa.fnExactDriveDo
open Go.ChangeShapes Go.WideShapes Go.ChangeAt Go.RowKit
theorem closed : joinedFacts Try.prog 9 Try.f9 Rows.fnExactDriveDoSpec Rows.fnExactDriveDoRow = true := by kernel_rfl
end Go.Proofs.Ytlijeincckbdaaa.fnExactDriveDo
