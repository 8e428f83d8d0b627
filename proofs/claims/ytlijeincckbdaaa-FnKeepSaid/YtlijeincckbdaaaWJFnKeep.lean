/- What the row of the law FnKeep asks of the program. -/
import Derived.Test.YtlijeincckbdaaaRows
import Derived.WalkKit
import Derived.ProofKit
import Derived.SizedLaws
namespace Go.Proofs.Ytlijeincckbdaaa.fnKeep
open Go.ChangeShapes Go.WideShapes Go.ChangeAt Go.RowKit
theorem closed : joinedFacts Try.prog 13 Try.f13 Rows.fnKeepSpec Rows.fnKeepRow = true := by kernel_rfl
end Go.Proofs.Ytlijeincckbdaaa.fnKeep
