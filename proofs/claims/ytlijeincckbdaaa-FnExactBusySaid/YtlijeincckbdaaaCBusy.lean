/- Busy: the program and the reference answer alike, so the law returns true. -/
import Derived.Test.YtlijeincckbdaaaLBusy
import Derived.Test.YtlijeincckbdaaaS11
namespace Go.Proofs.Ytlijeincckbdaaa
open Go.RowKit
set_option linter.unusedSimpArgs false
set_option linter.unusedVariables false
theorem usedW_of {x : DWorld} (hw : x.wt ≤ 1048576) : ∀ d ∈ x.array.drives, usedN d.files ≤ 1000000000000 := fun d hd => by
  have h0 : x.wt = x.array.wt + x.cutting.wt + wL DClient.wt x.clients := rfl
  have h1 : x.array.wt = wL DDrive.wt x.array.drives := rfl
  have h2 := wL_mem (f := DDrive.wt) hd
  have h3 : d.wt = wL DStored.wt d.files := rfl
  have h4 := usedN_le d.files
  omega
theorem fnExactBusy_c (x0 : DWorld) (h0 : x0.it) : Fun1 Try.prog 8 [.agg x0.enc] (.one (.lit (.bool true))) := by
  refine lawBusy_c x0 h0 fun hw => ?_
  have hok := DWorld.ok_of x0 h0 (by omega)
  have hu := usedW_of hw
  exact ⟨(busyN x0 : Nat), busySpec_c x0 hok hu, busyImpl_c x0 hok hu⟩
end Go.Proofs.Ytlijeincckbdaaa
