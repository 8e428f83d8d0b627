/- WorldNew: the program and the reference hand back the same world, so the law returns true. -/
import Derived.Test.YtlijeincckbdaaaLWorldNew
import Derived.Test.YtlijeincckbdaaaS12
namespace Go.Proofs.Ytlijeincckbdaaa
open Go.RowKit
set_option linter.unusedSimpArgs false
set_option linter.unusedVariables false
theorem used_of_wt {x : DArray} (hw : x.wt ≤ 1048576) : ∀ d ∈ x.drives, usedN d.files ≤ 1000000000000 := fun d hd => by
  have h1 : x.wt = wL DDrive.wt x.drives := rfl
  have h2 := wL_mem (f := DDrive.wt) hd
  have h3 : d.wt = wL DStored.wt d.files := rfl
  have h4 := usedN_le d.files
  omega
theorem inI0 : inI 0 := ⟨by decide, by decide⟩
theorem newW_ok (x : DArray) (hx : x.ok) (c : DCutting) (hc : c.ok) (n : Int) : (newW x c n).ok := by
  unfold newW
  split
  · rename_i h
    refine ⟨hx, hc, inI0, ?_, fun y hy => ?_⟩
    · rw [List.length_replicate]; omega
    · rw [(List.mem_replicate.1 hy).2]
      exact ⟨inI0, by show ByteArray.empty.size ≤ _; decide, ⟨by decide, fun y hy => by cases hy⟩, inI0, inI0⟩
  · exact ⟨⟨inI0, inI0, by decide, fun y hy => by cases hy⟩, ⟨inI0, inI0, inI0⟩, inI0, by decide, fun y hy => by cases hy⟩
theorem newW_cn (x : DArray) (hw : x.wt ≤ 1048576) (c : DCutting) (n : Int) : (newW x c n).cnV ≤ 2305843009213693952 := by
  have h1 := DArray.cnV_le x
  have h2 : x.cnV = cnL DDrive.cnE x.drives := rfl
  unfold newW
  split
  · rename_i h
    show cnL DDrive.cnE x.drives + cnL DClient.cnE (List.replicate n.toNat clientZ) ≤ _
    have h3 : cnL DClient.cnE (List.replicate n.toNat clientZ) = n.toNat * 4 := by
      simp only [cnL, List.map_replicate, List.sum_replicate_nat]; rfl
    rw [h3]; omega
  · show 0 + 0 ≤ _; decide
theorem fnExactWorldNew_c (x0 : DArray) (h0 : x0.it) (x1 : DCutting) (h1 : x1.it) (x2 : Int) (h2 : inI x2) :
    Fun1 Try.prog 11 [.agg x0.enc, .agg x1.enc, .one (.lit (.int .i64 x2))] (.one (.lit (.bool true))) := by
  refine lawWorldNew_c x0 h0 x1 h1 x2 h2 fun hw => ?_
  have hok := DArray.ok_of x0 h0 (by omega)
  have hok1 : x1.ok := h1
  exact ⟨newW x0 x1 x2, newW_ok x0 hok x1 hok1 x2, newW_cn x0 hw x1 x2, newSpec_c x0 hok (used_of_wt hw) x1 x2 _ rfl, newImpl_c x0 hok (used_of_wt hw) x1 x2 _ rfl⟩
end Go.Proofs.Ytlijeincckbdaaa
