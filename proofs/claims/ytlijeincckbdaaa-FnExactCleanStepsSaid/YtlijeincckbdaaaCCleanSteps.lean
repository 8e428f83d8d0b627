/- CleanSteps: the program and the reference hand back the same steps, so the law returns true. -/
import Derived.Test.YtlijeincckbdaaaLCleanSteps
import Derived.Test.YtlijeincckbdaaaS6
namespace Go.Proofs.Ytlijeincckbdaaa
open Go.RowKit
set_option linter.unusedSimpArgs false
set_option linter.unusedVariables false
theorem used_of_wt {x : DArray} (hw : x.wt ≤ 1048576) : ∀ d ∈ x.drives, usedN d.files ≤ 1000000000000 := fun d hd => by
  have h1 : x.wt = wL DDrive.wt x.drives := rfl
  have h2 := wL_mem (f := DDrive.wt) hd
  have h3 : d.wt = wL DStored.wt d.files := rfl
  have h4 := usedN_le d.files
  omega
theorem rmStep_ok {i : Nat} {s : ByteArray} (hi : i ≤ 1000000) (hs : s.size ≤ 4294967296) : (rmStep i s).ok := by
  refine ⟨?_, ?_, hs, ?_, ?_⟩
  · show inI (i : Int); unfold inI; omega
  · show inI 4; unfold inI; omega
  · show ByteArray.empty.size ≤ _; decide
  · show ByteArray.empty.size ≤ _; decide
theorem cnStep (l : List DStep) : cnL DStep.cnE l = 5 * l.length := by
  induction l with
  | nil => rfl
  | cons y l ih => simp only [cnL, List.map_cons, List.sum_cons, List.length_cons] at ih ⊢; rw [ih]; have : y.cnE = 5 := rfl; omega
theorem cleanR_ok (x : DArray) (hx : x.ok) : (cleanR x).length ≤ 4294967296 ∧ ∀ y ∈ cleanR x, y.ok := by
  unfold cleanR
  split
  · rename_i h
    have hb := clean_bounds x h
    have hl := accI_len (f := cleanD) (g := fun d => d.files.length) cleanD_len x.drives 0
    obtain ⟨h14, _⟩ := arrayOk_len h
    refine ⟨by unfold cleanA; omega, fun y hy => ?_⟩
    obtain ⟨j, d, hd, _, hj, hy⟩ := accI_mem hy
    obtain ⟨f, hf, rfl⟩ := List.mem_map.1 hy
    have hf := (List.mem_filter.1 hf).1
    exact rmStep_ok (by omega) (((hx.2.2.2 d hd).1.2 f hf).1)
  · exact ⟨by simp, fun y hy => by cases hy⟩
theorem fnExactCleanSteps_c (x0 : DArray) (h0 : x0.it) : Fun1 Try.prog 4 [.agg x0.enc] (.one (.lit (.bool true))) := by
  refine lawCleanSteps_c x0 h0 fun hw => ?_
  have hok := DArray.ok_of x0 h0 (by omega)
  have hr := cleanR_ok x0 hok
  refine ⟨cleanR x0, hr, ?_, cleanStepsSpec_c x0 hok (used_of_wt hw), cleanStepsImpl_c x0 hok (used_of_wt hw)⟩
  have := cnStep (cleanR x0)
  omega
end Go.Proofs.Ytlijeincckbdaaa
