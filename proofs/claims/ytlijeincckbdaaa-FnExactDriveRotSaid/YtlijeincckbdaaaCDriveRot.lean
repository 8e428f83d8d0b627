/- DriveRot: the program and the reference hand back the same drive, so the law returns true. -/
import Derived.Test.YtlijeincckbdaaaLDriveRot
import Derived.Test.YtlijeincckbdaaaS4
namespace Go.Proofs.Ytlijeincckbdaaa
open Go.RowKit
set_option linter.unusedSimpArgs false
set_option linter.unusedVariables false
theorem rotF_files (x : DDrive) (name : ByteArray) (a t : Int) : (rotF x name a t).files = [] ∨ (rotF x name a t).files = x.files ∨ ∃ (p : Nat) (f : DStored), x.files[p]? = some f ∧ (rotF x name a t).files = x.files.set p ⟨f.name, xorB f.text a.toNat t, f.synced⟩ := by
  unfold rotF
  split
  · exact .inl rfl
  · split
    · split
      · rename_i f hf
        split
        · exact .inr (.inr ⟨_, f, hf, rfl⟩)
        · exact .inr (.inl rfl)
      · exact .inr (.inl rfl)
    · exact .inr (.inl rfl)
theorem xorB_size (s : ByteArray) (i : Nat) (u : Int) : (xorB s i u).size = s.size := by
  show (s.data.toList.set _ _).toArray.size = s.data.size
  rw [List.size_toArray, List.length_set, Array.length_toList]
theorem rotF_room (x : DDrive) (name : ByteArray) (a t : Int) : (rotF x name a t).room = 0 ∨ (rotF x name a t).room = x.room := by
  unfold rotF
  split
  · exact .inl rfl
  · split
    · split
      · split <;> exact .inr rfl
      · exact .inr rfl
    · exact .inr rfl
theorem rotF_ok (x : DDrive) (hx : x.ok) (name : ByteArray) (a t : Int) : (rotF x name a t).ok := by
  obtain ⟨⟨hl, hf⟩, hr⟩ := hx
  refine ⟨?_, ?_⟩
  · rcases rotF_files x name a t with h | h | ⟨p, f, hp, h⟩
    · rw [h]; exact ⟨by simp, fun y hy => by cases hy⟩
    · rw [h]; exact ⟨hl, hf⟩
    · rw [h]
      refine ⟨by simpa using hl, fun y hy => ?_⟩
      rcases List.mem_or_eq_of_mem_set hy with h1 | h1
      · exact hf y h1
      · subst h1
        have := hf f (List.mem_of_getElem? hp)
        exact ⟨this.1, by rw [xorB_size]; exact this.2.1, this.2.2⟩
  · rcases rotF_room x name a t with h | h <;> rw [h]
    · exact ⟨by decide, by decide⟩
    · exact hr
theorem fnExactDriveRot_c (x0 : DDrive) (h0 : x0.it) (x1 : ByteArray) (h1 : x1.size ≤ 9223372036854775807) (x2 : Int) (h2 : inI x2) (x3 : Int) (h3 : inI x3) :
    Fun1 Try.prog 3 [.agg x0.enc, .one (.lit (.string x1)), .one (.lit (.int .i64 x2)), .one (.lit (.int .i64 x3))] (.one (.lit (.bool true))) := by
  refine lawDriveRot_c x0 h0 x1 h1 x2 h2 x3 h3 fun hw hw1 => ?_
  have hok := DDrive.ok_of x0 h0 (by omega)
  have hu : usedN x0.files ≤ 1000000000000 := by
    have h1 := usedN_le x0.files
    have h2 : x0.wt = wL DStored.wt x0.files := rfl
    omega
  have hrok := rotF_ok x0 hok x1 x2 x3
  refine ⟨rotF x0 x1 x2 x3, hrok, ?_, rotSpec_c x0 hok hu x1 x2 x3 h2 _ rfl, rotImpl_c x0 hok hu x1 x2 x3 h2 _ rfl⟩
  have hc : ∀ l : List DStored, cnL DStored.cnE l = 3 * l.length := by
    intro l
    induction l with
    | nil => rfl
    | cons y l ih => simp only [cnL, List.map_cons, List.sum_cons, List.length_cons] at ih ⊢; rw [ih]; have : y.cnE = 3 := rfl; omega
  have : (rotF x0 x1 x2 x3).cnV = cnL DStored.cnE (rotF x0 x1 x2 x3).files := rfl
  rw [this, hc]
  have := hrok.1.1
  omega
end Go.Proofs.Ytlijeincckbdaaa
