/- What DriveDo leaves is in order. -/
import Derived.Test.YtlijeincckbdaaaS17
namespace Go.Proofs.Ytlijeincckbdaaa
open Go.RowKit
set_option linter.unusedSimpArgs false
set_option linter.unusedVariables false
theorem insL_mem {l : List DStored} {f y : DStored} (h : y ∈ insL l f) : y = f ∨ y ∈ l := by
  unfold insL at h
  simp only [List.mem_append, List.mem_singleton] at h
  rcases h with (h | h) | h
  · exact .inr (List.mem_of_mem_take h)
  · exact .inl h
  · exact .inr (List.mem_of_mem_drop h)
theorem insL_len (l : List DStored) (f : DStored) : (insL l f).length ≤ l.length + 1 := by
  have := inK_le l f.name
  unfold insL
  simp only [List.length_append, List.length_take, List.length_drop, List.length_singleton]
  omega
theorem in0 : inI 0 := ⟨by decide, by decide⟩
theorem noDrive_ok : noDrive.ok := ⟨⟨by simp [noDrive], fun y hy => by simp [noDrive] at hy⟩, by decide, by decide⟩
theorem doF_ok (x : DDrive) (hx : x.ok) (hd : driveOk x = true) (o : DOp) (ho : o.ok) : (doF x o).ok ∧ (doF x o).drive.files.length ≤ 61 := by
  obtain ⟨q1, q2, q3, q4, q5, q6⟩ := (driveOk_iff x).1 hd
  obtain ⟨⟨hl, hf⟩, hr⟩ := hx
  have hno : ∀ c : Int, inI c → (⟨noDrive, c⟩ : DDriveOut).ok ∧ (⟨noDrive, c⟩ : DDriveOut).drive.files.length ≤ 61 := fun c hc => ⟨⟨noDrive_ok, hc⟩, by simp [noDrive]⟩
  have hmk : ∀ l : List DStored, l.length ≤ 61 → (∀ y ∈ l, y.ok) → (⟨⟨l, x.room⟩, 0⟩ : DDriveOut).ok ∧ (⟨⟨l, x.room⟩, 0⟩ : DDriveOut).drive.files.length ≤ 61 := fun l h1 h2 => ⟨⟨⟨⟨by show l.length ≤ _; omega, h2⟩, hr⟩, in0⟩, h1⟩
  unfold doF
  split
  · split
    · exact hno _ ⟨by decide, by decide⟩
    · split
      · exact hno _ ⟨by decide, by decide⟩
      · refine hmk _ (Nat.le_trans (insL_len _ _) (by omega)) fun y hy => ?_
        rcases insL_mem hy with rfl | h
        · exact ⟨ho.2.1, ho.2.2.2, in0⟩
        · exact hf y h
  · split
    · split
      · exact hno _ ⟨by decide, by decide⟩
      · rename_i f hg
        have hfo := hf f (List.mem_of_getElem? hg)
        have hc : ∀ y ∈ cutL x.files (findP x.files o.name), y.ok := fun y hy => hf y ((cutL_sub _ _).subset hy)
        have hcl := (cutL_sub x.files (findP x.files o.name)).length_le
        split
        · refine hmk _ (by simpa using Nat.le_trans q1 (by omega)) fun y hy => ?_
          rcases List.mem_or_eq_of_mem_set hy with h | h
          · exact hf y h
          · subst h
            refine ⟨hfo.1, hfo.2.1, ?_⟩
            have := hfo.2.1
            unfold inI
            simp only
            omega
        · split
          · split
            · exact ⟨⟨⟨⟨hl, hf⟩, hr⟩, in0⟩, by show x.files.length ≤ 61; omega⟩
            · refine hmk _ (Nat.le_trans (insL_len _ _) (by omega)) fun y hy => ?_
              rcases insL_mem hy with rfl | h
              · exact ⟨ho.2.2.1, hfo.2.1, hfo.2.2⟩
              · exact hc y h
          · exact hmk _ (by omega) hc
    · exact hno _ ⟨by decide, by decide⟩
theorem driveDoF_ok (x : DDrive) (hx : x.ok) (o : DOp) (ho : o.ok) : (driveDoF x o).ok ∧ (driveDoF x o).drive.files.length ≤ 61 := by
  unfold driveDoF
  split
  · rename_i h
    exact doF_ok x hx h.1 o ho
  · exact ⟨⟨noDrive_ok, by decide, by decide⟩, by simp [noDrive]⟩
end Go.Proofs.Ytlijeincckbdaaa
