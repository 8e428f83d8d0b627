/- What the row of the law FnExactLocked asks of the program. -/
import Derived.Test.YtlijeincckbdaaaRows
import Derived.WalkKit
import Derived.ProofKit
import Derived.SizedLaws
namespace Go.Proofs.Ytlijeincckbdaaa.fnExactLocked
open Go.ChangeShapes Go.WideShapes Go.ChangeAt Go.RowKit
theorem closed : joinedFacts Try.prog 10 Try.f10 Rows.fnExactLockedSpec Rows.fnExactLockedRow = true := by kernel_rfl
end Go.Proofs.Ytlijeincckbdaaa.fnExactLocked
