/- WorldRight: the program and the reference answer alike, so the law returns true. -/
import Derived.Test.YtlijeincckbdaaaLWorldRight
import Derived.Test.YtlijeincckbdaaaS10
namespace Go.Proofs.Ytlijeincckbdaaa
open Go.RowKit
set_option linter.unusedSimpArgs false
set_option linter.unusedVariables false
theorem usedW_of {x : DWorld} (hw : x.wt ≤ 1048576) : ∀ d ∈ x.array.drives, usedN d.files ≤ 1000000000000 := fun d hd => by
  have h0 : x.wt = x.array.wt + x.cutting.wt + wL DClient.wt x.clients := rfl
  have h1 : x.array.wt = wL DDrive.wt x.array.drives := rfl
  have h2 := wL_mem (f := DDrive.wt) hd
  have h3 : d.wt = wL DStored.wt d.files := rfl
  have h4 := usedN_le d.files
  omega
theorem fnExactWorldRight_c (x0 : DWorld) (h0 : x0.it) : Fun1 Try.prog 7 [.agg x0.enc] (.one (.lit (.bool true))) := by
  refine lawWorldRight_c x0 h0 fun hw => ?_
  have hok := DWorld.ok_of x0 h0 (by omega)
  have hu := usedW_of hw
  exact ⟨worldOk x0, worldSpec_c x0 hok hu, worldImpl_c x0 hok hu⟩
end Go.Proofs.Ytlijeincckbdaaa
