/- What the row of the law FnExactForget asks of the program. -/
import Derived.Test.YtlijeincckbdaaaRows
import Derived.WalkKit
import Derived.ProofKit
import Derived.SizedLaws
namespace Go.Proofs.Ytlijeincckbdaaa.fnExactForget
open Go.ChangeShapes Go.WideShapes Go.ChangeAt Go.RowKit
theorem closed : joinedFacts Try.prog 12 Try.f12 Rows.fnExactForgetSpec Rows.fnExactForgetRow = true := by kernel_rfl
end Go.Proofs.Ytlijeincckbdaaa.fnExactForget
