/- DriveDo: the program and the reference hand back the same, so the law returns true. -/
import Derived.Test.YtlijeincckbdaaaLDriveDo
import Derived.Test.YtlijeincckbdaaaP4
namespace Go.Proofs.Ytlijeincckbdaaa
open Go.RowKit
set_option linter.unusedSimpArgs false
set_option linter.unusedVariables false
theorem fnExactDriveDo_c (x0 : DDrive) (h0 : x0.it) (x1 : DOp) (h1 : x1.it) :
    Fun1 Try.prog 9 [.agg x0.enc, .agg x1.enc] (.one (.lit (.bool true))) := by
  refine lawDriveDo_c x0 h0 x1 h1 fun hw hw1 => ?_
  have hok := DDrive.ok_of x0 h0 (by omega)
  have hok1 := DOp.ok_of x1 h1 (by omega)
  have hu : usedN x0.files ≤ 1000000000000 := by
    have h1 := usedN_le x0.files
    have h2 : x0.wt = wL DStored.wt x0.files := rfl
    omega
  obtain ⟨hrok, hrl⟩ := driveDoF_ok x0 hok x1 hok1
  refine ⟨driveDoF x0 x1, hrok, ?_, driveDoSpec_c x0 hok hu x1 hok1 _ rfl, driveDoImpl_c x0 hok hu x1 hok1 _ rfl⟩
  have hc : ∀ l : List DStored, cnL DStored.cnE l = 3 * l.length := by
    intro l
    induction l with
    | nil => rfl
    | cons y l ih => simp only [cnL, List.map_cons, List.sum_cons, List.length_cons] at ih ⊢; rw [ih]; have : y.cnE = 3 := rfl; omega
  have : (driveDoF x0 x1).cnV = cnL DStored.cnE (driveDoF x0 x1).drive.files := rfl
  rw [this, hc]
  omega
end Go.Proofs.Ytlijeincckbdaaa
