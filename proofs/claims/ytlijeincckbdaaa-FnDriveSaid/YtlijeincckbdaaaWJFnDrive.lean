/- What the row of the law FnDrive asks of the program. -/
import Derived.Test.YtlijeincckbdaaaRows
import Derived.WalkKit
import Derived.ProofKit
import Derived.SizedLaws
namespace Go.Proofs.Ytlijeincckbdaaa.fnDrive
open Go.ChangeShapes Go.WideShapes Go.ChangeAt Go.RowKit
theorem closed : joinedFacts Try.prog 6 Try.f6 Rows.fnDriveSpec Rows.fnDriveRow = true := by kernel_rfl
end Go.Proofs.Ytlijeincckbdaaa.fnDrive
