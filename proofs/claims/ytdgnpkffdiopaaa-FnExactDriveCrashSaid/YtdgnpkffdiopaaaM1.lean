/- What the program's functions on texts and drives reckon, as plain Lean functions. -/
import Derived.Test.YtdgnpkffdiopaaaDt
namespace Go.Proofs.Ytdgnpkffdiopaaa
open Go.RowKit
set_option linter.unusedSimpArgs false
set_option linter.unusedVariables false

/-- Bytes before bytes. -/
def bLt (a b : ByteArray) : Bool := Op.bytesLess a.toList b.toList
/-- May a byte stand in a name at a place? -/
def nmAt (s : ByteArray) (i : Nat) : Bool :=
  let c := (s.data.toList.getD i 0).toNat
  (decide (97 ≤ c) && decide (c ≤ 122)) || (decide (i ≠ 0) && ((decide (48 ≤ c) && decide (c ≤ 57)) || decide (c = 45)))
def nameOk (s : ByteArray) (most : Int) : Bool := (List.range s.size).all (nmAt s) && (decide ((1 : Int) ≤ s.size) && decide ((s.size : Int) ≤ most))
theorem range_all_true {n : Nat} {p : Nat → Bool} (h : ∀ j, j < n → p j = true) : (List.range n).all p = true := by
  rw [List.all_eq_true]; intro j hj; exact h j (List.mem_range.1 hj)
theorem range_all_false {n j : Nat} {p : Nat → Bool} (hj : j < n) (h : p j = false) : (List.range n).all p = false := by
  rw [List.all_eq_false]; exact ⟨j, List.mem_range.2 hj, by simp [h]⟩
def usedB (fs : List DStored) : Int := (fs.map fun f => (f.text.size : Int)).sum
theorem usedB_take_succ {fs : List DStored} {k : Nat} (hk : k < fs.length) : usedB (fs.take (k + 1)) = usedB (fs.take k) + fs[k].text.size := sum_take_succ _ fs hk
theorem usedB_nonneg (fs : List DStored) : 0 ≤ usedB fs := sum_nonneg (fun f => by omega) fs
theorem usedB_take_le (fs : List DStored) (k : Nat) : usedB (fs.take k) ≤ usedB fs := sum_take_le (fun f => by omega) fs k
theorem usedB_le (fs : List DStored) : usedB fs ≤ bL bStored fs := by
  unfold bL usedB
  induction fs with
  | nil => simp
  | cons f fs ih =>
    simp only [List.map_cons, List.sum_cons, List.length_cons, bStored] at ih ⊢
    omega
/-- Is file i right, and behind the one ahead of it? -/
def fOk (fs : List DStored) (i : Nat) : Bool :=
  match fs[i]? with
  | none => false
  | some f => nameOk f.name 80 && (decide (i = 0) || bLt ((fs[i - 1]?).getD f).name f.name) && decide (f.text.size ≤ 20000) && decide (0 ≤ f.synced) && decide (f.synced ≤ f.text.size)
def filesOk (fs : List DStored) : Bool := (List.range fs.length).all (fOk fs)
def driveOk (d : DDrive) : Bool := decide (d.files.length ≤ 60) && decide (0 ≤ d.room) && decide (d.room ≤ 100000) && filesOk d.files && decide (usedB d.files ≤ d.room)
theorem fOk_eq {fs : List DStored} {i : Nat} (hi : i < fs.length) : fOk fs i = (nameOk fs[i].name 80 && (decide (i = 0) || bLt (fs[i - 1]'(by omega)).name fs[i].name) && decide (fs[i].text.size ≤ 20000) && decide (0 ≤ fs[i].synced) && decide (fs[i].synced ≤ fs[i].text.size)) := by
  unfold fOk
  rw [List.getElem?_eq_getElem hi, List.getElem?_eq_getElem (show i - 1 < fs.length by omega)]; rfl
/-- A file behind a crash. -/
def crashN (keep : List Int) (i : Nat) (f : DStored) : Int := f.synced + (if 0 < (keep[i]?).getD 0 then min ((keep[i]?).getD 0) (f.text.size - f.synced) else 0)
def crashOne (keep : List Int) (i : Nat) (f : DStored) : DStored := ⟨f.name, f.text.extract 0 (crashN keep i f).toNat, crashN keep i f⟩
def crash (keep : List Int) (d : DDrive) : DDrive := ⟨d.files.mapIdx (crashOne keep), d.room⟩
theorem fOk_of {d : DDrive} (h : driveOk d = true) {k : Nat} (hk : k < d.files.length) : nameOk d.files[k].name 80 = true ∧ d.files[k].text.size ≤ 20000 ∧ 0 ≤ d.files[k].synced ∧ d.files[k].synced ≤ d.files[k].text.size := by
  unfold driveOk at h
  simp only [Bool.and_eq_true] at h
  have h1 := List.all_eq_true.1 h.1.2 k (List.mem_range.2 hk)
  rw [fOk_eq hk] at h1
  simp only [Bool.and_eq_true, decide_eq_true_eq] at h1
  exact ⟨h1.1.1.1.1, h1.1.1.2, h1.1.2, h1.2⟩
theorem big_text {fs : List DStored} {B : Int} (h : bL bStored fs ≤ B) {k : Nat} (hk : k < fs.length) : (fs[k].text.size : Int) ≤ B ∧ (fs[k].name.size : Int) ≤ B := by
  have h1 := bL_mem bStored_nonneg (List.getElem_mem hk)
  have h2 : bStored fs[k] = (fs[k].name.size : Int) + fs[k].text.size := rfl
  omega
end Go.Proofs.Ytdgnpkffdiopaaa
