/- RemoveSteps: the program and the reference hand back the same steps, so the law returns true. -/
import Derived.Test.YtlijeincckbdaaaLRemoveSteps
import Derived.Test.YtlijeincckbdaaaS7
namespace Go.Proofs.Ytlijeincckbdaaa
open Go.RowKit
set_option linter.unusedSimpArgs false
set_option linter.unusedVariables false
theorem used_of_wt {x : DArray} (hw : x.wt ≤ 1048576) : ∀ d ∈ x.drives, usedN d.files ≤ 1000000000000 := fun d hd => by
  have h1 : x.wt = wL DDrive.wt x.drives := rfl
  have h2 := wL_mem (f := DDrive.wt) hd
  have h3 : d.wt = wL DStored.wt d.files := rfl
  have h4 := usedN_le d.files
  omega
theorem rmStep_ok {i : Nat} {s : ByteArray} (hi : i ≤ 1000000) (hs : s.size ≤ 4294967296) : (rmStep i s).ok := by
  refine ⟨?_, ?_, hs, ?_, ?_⟩
  · show inI (i : Int); unfold inI; omega
  · show inI 4; unfold inI; omega
  · show ByteArray.empty.size ≤ _; decide
  · show ByteArray.empty.size ≤ _; decide
theorem cnStep (l : List DStep) : cnL DStep.cnE l = 5 * l.length := by
  induction l with
  | nil => rfl
  | cons y l ih => simp only [cnL, List.map_cons, List.sum_cons, List.length_cons] at ih ⊢; rw [ih]; have : y.cnE = 5 := rfl; omega
theorem removeR_ok (x : DArray) (name : ByteArray) (hn : name.size ≤ 4294967296) : (removeR x name).length ≤ 4294967296 ∧ ∀ y ∈ removeR x name, y.ok := by
  unfold removeR
  split
  · rename_i h
    have hl := accI_len (f := rmF name) (g := fun _ => 1) (rmF_len name) x.drives 0
    rw [sum_one] at hl
    obtain ⟨h14, _⟩ := arrayOk_len h.2.1
    refine ⟨by omega, fun y hy => ?_⟩
    obtain ⟨j, d, hd, _, hj, hy⟩ := accI_mem hy
    unfold rmF at hy
    split at hy
    · simp at hy; subst hy
      exact rmStep_ok (by omega) hn
    · cases hy
  · exact ⟨by simp, fun y hy => by cases hy⟩
theorem fnExactRemoveSteps_c (x0 : DArray) (h0 : x0.it) (x1 : ByteArray) (h1 : x1.size ≤ 9223372036854775807) : Fun1 Try.prog 5 [.agg x0.enc, .one (.lit (.string x1))] (.one (.lit (.bool true))) := by
  refine lawRemoveSteps_c x0 h0 x1 h1 fun hw hw1 => ?_
  have hok := DArray.ok_of x0 h0 (by omega)
  have hr := removeR_ok x0 x1 (by omega)
  refine ⟨removeR x0 x1, hr, ?_, removeStepsSpec_c x0 hok (used_of_wt hw) x1 (by omega), removeStepsImpl_c x0 hok (used_of_wt hw) x1 (by omega)⟩
  have := cnStep (removeR x0 x1)
  omega
end Go.Proofs.Ytlijeincckbdaaa
