/- Locked: the program and the reference answer alike, so the law returns true. -/
import Derived.Test.YtlijeincckbdaaaLLocked
import Derived.Test.YtlijeincckbdaaaS11
namespace Go.Proofs.Ytlijeincckbdaaa
open Go.RowKit
set_option linter.unusedSimpArgs false
set_option linter.unusedVariables false
theorem usedW_of {x : DWorld} (hw : x.wt ≤ 1048576) : ∀ d ∈ x.array.drives, usedN d.files ≤ 1000000000000 := fun d hd => by
  have h0 : x.wt = x.array.wt + x.cutting.wt + wL DClient.wt x.clients := rfl
  have h1 : x.array.wt = wL DDrive.wt x.array.drives := rfl
  have h2 := wL_mem (f := DDrive.wt) hd
  have h3 : d.wt = wL DStored.wt d.files := rfl
  have h4 := usedN_le d.files
  omega
theorem fnExactLocked_c (x0 : DWorld) (h0 : x0.it) (x1 : Int) (h1 : inI x1) (x2 : Int) (h2 : inI x2) : Fun1 Try.prog 10 [.agg x0.enc, .one (.lit (.int .i64 x1)), .one (.lit (.int .i64 x2))] (.one (.lit (.bool true))) := by
  refine lawLocked_c x0 h0 x1 h1 x2 h2 fun hw => ?_
  have hok := DWorld.ok_of x0 h0 (by omega)
  have hu := usedW_of hw
  exact ⟨lockedB x0 x1 x2, lockedSpec_c x0 hok hu x1 x2, lockedImpl_c x0 hok hu x1 x2⟩
end Go.Proofs.Ytlijeincckbdaaa
