/- Right arrays, and the steps that remove files: plain laws. -/
import Derived.Test.YtlijeincckbdaaaP1
namespace Go.Proofs.Ytlijeincckbdaaa
open Go.RowKit
set_option linter.unusedSimpArgs false
set_option linter.unusedVariables false
/-- What each element gives, one behind the other; each is told its number. -/
def accI {α β : Type} (f : Nat → α → List β) : Nat → List α → List β
  | _, [] => []
  | i, x :: xs => f i x ++ accI f (i + 1) xs
theorem accI_append {α β : Type} (f : Nat → α → List β) : ∀ (xs ys : List α) (i : Nat), accI f i (xs ++ ys) = accI f i xs ++ accI f (i + xs.length) ys
  | [], ys, i => by simp [accI]
  | x :: xs, ys, i => by
    simp only [List.cons_append, accI, accI_append f xs ys (i + 1), List.append_assoc, List.length_cons]
    rw [show i + 1 + xs.length = i + (xs.length + 1) by omega]
theorem accI_take_succ {α β : Type} {f : Nat → α → List β} {l : List α} {i : Nat} (h : i < l.length) : accI f 0 (l.take (i + 1)) = accI f 0 (l.take i) ++ f i l[i] := by
  rw [List.take_succ_eq_append_getElem h, accI_append]
  simp only [accI, List.append_nil, List.length_take, Nat.zero_add]
  rw [Nat.min_eq_left (by omega)]
theorem accI_len {α β : Type} {f : Nat → α → List β} {g : α → Nat} (h : ∀ i x, (f i x).length ≤ g x) : ∀ (l : List α) (i : Nat), (accI f i l).length ≤ (l.map g).sum
  | [], i => by simp [accI]
  | x :: l, i => by
    have h1 := h i x
    have h2 := accI_len h l (i + 1)
    simp only [accI, List.length_append, List.map_cons, List.sum_cons]; omega
theorem accI_len_le {α β : Type} {f : Nat → α → List β} {g : α → Nat} (h : ∀ i x, (f i x).length ≤ g x) (l : List α) (i : Nat) : (accI f 0 (l.take i)).length ≤ (l.map g).sum :=
  Nat.le_trans (accI_len h _ 0) (sum_take_le g l i)
theorem accI_mem {α β : Type} {f : Nat → α → List β} : ∀ {l : List α} {i : Nat} {y : β}, y ∈ accI f i l → ∃ j x, x ∈ l ∧ i ≤ j ∧ j < i + l.length ∧ y ∈ f j x
  | [], i, y, h => by simp [accI] at h
  | x :: l, i, y, h => by
    simp only [accI, List.mem_append] at h
    rcases h with h | h
    · exact ⟨i, x, by simp, Nat.le_refl _, by simp, h⟩
    · obtain ⟨j, z, h1, h2, h3, h4⟩ := accI_mem h
      exact ⟨j, z, by simp [h1], by omega, by simp; omega, h4⟩
/-- Elements that are such, turned. -/
theorem filterMap_take_succ {α β : Type} {p : α → Bool} {f : α → β} {l : List α} {i : Nat} (h : i < l.length) : ((l.take (i + 1)).filter p).map f = ((l.take i).filter p).map f ++ (if p l[i] = true then [f l[i]] else []) := by
  rw [List.take_succ_eq_append_getElem h, List.filter_append, List.map_append]
  congr 1
  by_cases hp : p l[i] = true <;> simp [hp]
def codeOk (k m : Int) : Bool := decide (1 ≤ k) && decide (k ≤ 8) && decide (0 ≤ m) && decide (m ≤ 6)
def arrayOk (x : DArray) : Bool := codeOk x.k x.m && decide ((x.drives.length : Int) = x.k + x.m) && x.drives.all driveOk
def rmOp (name : ByteArray) : DOp := ⟨4, name, .empty, .empty⟩
def rmStep (i : Nat) (name : ByteArray) : DStep := ⟨(i : Nat), rmOp name⟩
def isTmp (s : ByteArray) : Bool := decide (2 ≤ s.size) && decide (s.extract 0 2 = ⟨#[116, 45]⟩)
def cleanD (i : Nat) (d : DDrive) : List DStep := (d.files.filter fun f => isTmp f.name).map fun f => rmStep i f.name
def cleanA (x : DArray) : List DStep := accI cleanD 0 x.drives
def removeA (name : ByteArray) (x : DArray) : List DStep := accI (fun i d => if hasN d.files name = true then [rmStep i name] else []) 0 x.drives
theorem cleanD_len (i : Nat) (d : DDrive) : (cleanD i d).length ≤ d.files.length := by simp [cleanD, List.length_filter_le]
theorem driveOk_len {d : DDrive} (h : driveOk d = true) : d.files.length ≤ 60 := by
  simp only [driveOk, Bool.and_eq_true, decide_eq_true_eq] at h; exact h.1.1.1.1
theorem arrayOk_len {x : DArray} (h : arrayOk x = true) : x.drives.length ≤ 14 ∧ (∀ d ∈ x.drives, driveOk d = true) ∧ 1 ≤ x.k ∧ x.k ≤ 8 ∧ 0 ≤ x.m ∧ x.m ≤ 6 ∧ (x.drives.length : Int) = x.k + x.m := by
  simp only [arrayOk, codeOk, Bool.and_eq_true, decide_eq_true_eq, List.all_eq_true] at h
  obtain ⟨⟨⟨⟨⟨h1, h2⟩, h3⟩, h4⟩, h5⟩, h6⟩ := h
  exact ⟨by omega, h6, h1, h2, h3, h4, h5⟩
theorem sum_le_mul {α : Type} {f : α → Nat} {B : Nat} : ∀ {l : List α}, (∀ x ∈ l, f x ≤ B) → (l.map f).sum ≤ B * l.length
  | [], _ => by simp
  | x :: l, h => by
    have h1 := h x (by simp)
    have h2 := sum_le_mul (l := l) fun y hy => h y (by simp [hy])
    simp only [List.map_cons, List.sum_cons, List.length_cons, Nat.mul_add]; omega
end Go.Proofs.Ytlijeincckbdaaa
