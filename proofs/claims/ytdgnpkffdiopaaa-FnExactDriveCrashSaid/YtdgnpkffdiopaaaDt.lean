/- The data of the program, as plain Lean structures, and how each lies in memory. (Printed by this session's gen.py.) -/
import Derived.Test.YtdgnpkffdiopaaaWp
namespace Go.Proofs.Ytdgnpkffdiopaaa
open Go.RowKit
set_option linter.unusedSimpArgs false
set_option linter.unusedVariables false

/-- The digits of a mark. -/
def mtB : Nat → Nat → List UInt8
  | 0, _ => []
  | f + 1, k => if k = 0 then [] else mtB f (k / 10) ++ [48 + UInt8.ofNat (k % 10)]
/-- The text of a mark. -/
def mtext (k : Int) : ByteArray := if k ≤ 0 then ⟨#[109, 48]⟩ else ⟨(109 :: mtB 64 k.toNat).toArray⟩
def mkI (_ : Int) (k : Int) : Int := k
def mkT (_ : ByteArray) (k : Int) : ByteArray := mtext k
def mkB (_ : Bool) (k : Int) : Bool := decide (k % 3 = 0)
def cn1 {α : Type} (_ : α) : Int := 1
/-- How many values and letters a list holds. -/
def bL {α : Type} (b : α → Int) (xs : List α) : Int := (xs.length : Int) + (xs.map b).sum
/-- What is left of a purse; -1 if it does not reach. -/
def szR (b left : Int) : Int := if b ≤ left then left - b else -1
theorem szR_yes {b l : Int} (h : b ≤ l) : szR b l = l - b := if_pos h
theorem szR_no {b l : Int} (h : l < b) : szR b l = -1 := if_neg (by omega)
theorem sum_take_succ {α : Type} (b : α → Int) : ∀ (xs : List α) {i : Nat} (hi : i < xs.length), ((xs.take (i + 1)).map b).sum = ((xs.take i).map b).sum + b xs[i]
  | x :: xs, 0, _ => by simp
  | x :: xs, i + 1, hi => by
    have := sum_take_succ b xs (i := i) (by simpa using hi)
    simp only [List.take_succ_cons, List.map_cons, List.sum_cons, this, List.getElem_cons_succ]; omega
theorem sum_nonneg {α : Type} {b : α → Int} (h : ∀ x, 0 ≤ b x) : ∀ xs : List α, 0 ≤ (xs.map b).sum
  | [] => by simp
  | x :: xs => by have := h x; have := sum_nonneg h xs; simp only [List.map_cons, List.sum_cons]; omega
theorem sum_take_le {α : Type} {b : α → Int} (h : ∀ x, 0 ≤ b x) : ∀ (xs : List α) (i : Nat), ((xs.take i).map b).sum ≤ (xs.map b).sum
  | [], i => by simp
  | x :: xs, 0 => by simpa using sum_nonneg h (x :: xs)
  | x :: xs, i + 1 => by have := sum_take_le h xs i; simp only [List.take_succ_cons, List.map_cons, List.sum_cons]; omega
theorem bL_nonneg {α : Type} {b : α → Int} (h : ∀ x, 0 ≤ b x) (xs : List α) : 0 ≤ bL b xs := by have := sum_nonneg h xs; unfold bL; omega
theorem bL_mem {α : Type} {b : α → Int} (h : ∀ x, 0 ≤ b x) {xs : List α} {x : α} (hx : x ∈ xs) : b x ≤ bL b xs := by
  have h1 : b x ≤ (xs.map b).sum := by
    induction xs with
    | nil => cases hx
    | cons y ys ih =>
      simp only [List.map_cons, List.sum_cons]
      have h2 := sum_nonneg h ys
      have h3 := h y
      rcases List.mem_cons.1 hx with rfl | hx
      · omega
      · have := ih hx; omega
  unfold bL; omega
theorem bL_len {α : Type} {b : α → Int} (h : ∀ x, 0 ≤ b x) (xs : List α) : (xs.length : Int) ≤ bL b xs := by have := sum_nonneg h xs; unfold bL; omega
theorem cn1_nonneg {α : Type} (x : α) : 0 ≤ cn1 x := by simp [cn1]
structure DStored where
  name : ByteArray
  text : ByteArray
  synced : Int
deriving DecidableEq
def zStored : DStored := ⟨⟨#[]⟩, ⟨#[]⟩, 0⟩
def bStored (x : DStored) : Int := (x.name.size : Int) + (x.text.size : Int)
/-- The strings of a datum are no longer than a string may be. -/
def okStored (x : DStored) : Prop := x.name.size ≤ 9223372036854775807 ∧ x.text.size ≤ 9223372036854775807
theorem bStored_nonneg (x : DStored) : 0 ≤ bStored x := by
  unfold bStored
  omega
def cnStored (x : DStored) : Int := 3
theorem cnStored_nonneg (x : DStored) : 0 ≤ cnStored x := by
  unfold cnStored
  omega
def mkStored (x : DStored) (k : Int) : DStored := ⟨mtext (k), mtext (k + 1), k + 1 + 1⟩
def DStored.enc (x : DStored) : List Value := [.string x.name, .string x.text, .int .i64 x.synced]
def kStored : Kd DStored := kFlat DStored.enc 3 (fun _ => rfl) (fun x u hu => by simp [DStored.enc] at hu; rcases hu with rfl | rfl | rfl <;> rfl)
theorem kStored_sz : kStored.sz = 3 := rfl
theorem rdStored {w : World} {A : Option Addr} {c : Nat} {xs : List DStored} (H : Rd kStored w A c xs) {k : Nat} (hk : k < xs.length) :
    ∃ b off, A = some ⟨b, off, none⟩ ∧ b < w.heap.size ∧ w.cell? ⟨b, off + k * 3, none⟩ = some (.string xs[k].name) ∧ w.cell? ⟨b, off + k * 3 + 1, none⟩ = some (.string xs[k].text) ∧ w.cell? ⟨b, off + k * 3 + 2, none⟩ = some (.int .i64 xs[k].synced) := by
  obtain ⟨b, off, ha, hb, cs, hc, hs⟩ := H.at (by decide) hk
  rw [show cs = xs[k].enc from hc] at hs
  exact ⟨b, off, ha, hb, hs 0 _ rfl, hs 1 _ rfl, hs 2 _ rfl⟩
structure DDrive where
  files : List DStored
  room : Int
deriving DecidableEq
def zDrive : DDrive := ⟨[], 0⟩
def bDrive (x : DDrive) : Int := bL bStored x.files
/-- The strings of a datum are no longer than a string may be. -/
def okDrive (x : DDrive) : Prop := (∀ y ∈ x.files, okStored y)
theorem bDrive_nonneg (x : DDrive) : 0 ≤ bDrive x := by
  unfold bDrive
  have := bL_nonneg bStored_nonneg x.files
  omega
def cnDrive (x : DDrive) : Int := 1 + cnL cnStored x.files
theorem cnDrive_nonneg (x : DDrive) : 0 ≤ cnDrive x := by
  unfold cnDrive
  have := cnL_nonneg cnStored_nonneg x.files
  omega
def mkDrive (x : DDrive) (k : Int) : DDrive := ⟨mkL mkStored cnStored x.files (k), k + cnL cnStored x.files⟩
def kDrive : Kd DDrive := (kAnd (kSl kStored 62) (kFlat (fun x : DDrive => [.int .i64 x.room]) 1 (fun _ => rfl) (fun x u hu => by simp at hu; rcases hu with rfl <;> rfl)) (fun x : DDrive => x.files) (fun x : DDrive => x))
theorem kDrive_C {w : World} {x : DDrive} {cs : List Value} (h : kDrive.C w x cs) : ∃ A0 c0, cs = [.slice A0 x.files.length c0, .int .i64 x.room] ∧ Rd kStored w A0 c0 x.files := by
  obtain ⟨p0, q0, rfl, h0, r0⟩ := h
  obtain ⟨A0, c0, e0, g0⟩ := h0
  cases e0
  have e1 := r0
  (try subst e1); (try cases e1)
  exact ⟨A0, c0, rfl, g0⟩
theorem kDrive_O {w : World} {F : List Nat} {x : DDrive} {cs : List Value} (h : kDrive.O w F x cs) : ∃ v0 F0, cs = [v0, .int .i64 x.room] ∧ Ow kStored 62 w F0 v0 x.files ∧ F = F0 := by
  obtain ⟨P0, Q0, p0, q0, E0, nd0, e0, h0, r0⟩ := h
  obtain ⟨v0, f0, g0⟩ := h0
  obtain ⟨z1, f1⟩ := r0
  refine ⟨v0, P0, ?_, g0, ?_⟩
  · simp [e0, f0, f1]
  · simp [E0, z1]
theorem kDrive_mk {w : World} {F0 : List Nat} {v0 : Value} {x : DDrive} (h : Ow kStored 62 w F0 v0 x.files) : kDrive.O w F0 x [v0, .int .i64 x.room] := by
  exact ⟨F0, [], _, _, by simp, h.nodup, rfl, ⟨v0, rfl, h⟩, ⟨rfl, rfl⟩⟩
theorem kDrive_sz : kDrive.sz = 2 := rfl
theorem kDrive_set1 {w : World} {F : List Nat} {x : DDrive} {cs : List Value} {n : Int} (h : kDrive.O w F x cs) : kDrive.O w F ⟨x.files, n⟩ (cs.set 1 (.int .i64 n)) := by
  obtain ⟨v0, F0, rfl, g0, rfl⟩ := kDrive_O h
  exact kDrive_mk (x := ⟨x.files, n⟩) g0
theorem rdDrive {w : World} {A : Option Addr} {c : Nat} {xs : List DDrive} (H : Rd kDrive w A c xs) {k : Nat} (hk : k < xs.length) :
    ∃ b off A0 c0, A = some ⟨b, off, none⟩ ∧ b < w.heap.size ∧ w.cell? ⟨b, off + k * 2, none⟩ = some (.slice A0 xs[k].files.length c0) ∧ w.cell? ⟨b, off + k * 2 + 1, none⟩ = some (.int .i64 xs[k].room) ∧ Rd kStored w A0 c0 xs[k].files := by
  obtain ⟨b, off, ha, hb, cs, hc, hs⟩ := H.at (by decide) hk
  obtain ⟨A0, c0, rfl, g0⟩ := kDrive_C hc
  exact ⟨b, off, A0, c0, ha, hb, hs 0 _ rfl, hs 1 _ rfl, g0⟩
structure DArray where
  k : Int
  m : Int
  drives : List DDrive
deriving DecidableEq
def zArray : DArray := ⟨0, 0, []⟩
def bArray (x : DArray) : Int := bL bDrive x.drives
/-- The strings of a datum are no longer than a string may be. -/
def okArray (x : DArray) : Prop := (∀ y ∈ x.drives, okDrive y)
theorem bArray_nonneg (x : DArray) : 0 ≤ bArray x := by
  unfold bArray
  have := bL_nonneg bDrive_nonneg x.drives
  omega
def cnArray (x : DArray) : Int := 2 + cnL cnDrive x.drives
theorem cnArray_nonneg (x : DArray) : 0 ≤ cnArray x := by
  unfold cnArray
  have := cnL_nonneg cnDrive_nonneg x.drives
  omega
def mkArray (x : DArray) (k : Int) : DArray := ⟨k, k + 1, mkL mkDrive cnDrive x.drives (k + 1 + 1)⟩
structure DOp where
  kind : Int
  name : ByteArray
  to_ : ByteArray
  text : ByteArray
deriving DecidableEq
def zOp : DOp := ⟨0, ⟨#[]⟩, ⟨#[]⟩, ⟨#[]⟩⟩
def bOp (x : DOp) : Int := (x.name.size : Int) + (x.to_.size : Int) + (x.text.size : Int)
/-- The strings of a datum are no longer than a string may be. -/
def okOp (x : DOp) : Prop := x.name.size ≤ 9223372036854775807 ∧ x.to_.size ≤ 9223372036854775807 ∧ x.text.size ≤ 9223372036854775807
theorem bOp_nonneg (x : DOp) : 0 ≤ bOp x := by
  unfold bOp
  omega
def cnOp (x : DOp) : Int := 4
theorem cnOp_nonneg (x : DOp) : 0 ≤ cnOp x := by
  unfold cnOp
  omega
def mkOp (x : DOp) (k : Int) : DOp := ⟨k, mtext (k + 1), mtext (k + 1 + 1), mtext (k + 1 + 1 + 1)⟩
structure DStep where
  drive : Int
  op : DOp
deriving DecidableEq
def zStep : DStep := ⟨0, ⟨0, ⟨#[]⟩, ⟨#[]⟩, ⟨#[]⟩⟩⟩
def bStep (x : DStep) : Int := (x.op.name.size : Int) + (x.op.to_.size : Int) + (x.op.text.size : Int)
/-- The strings of a datum are no longer than a string may be. -/
def okStep (x : DStep) : Prop := x.op.name.size ≤ 9223372036854775807 ∧ x.op.to_.size ≤ 9223372036854775807 ∧ x.op.text.size ≤ 9223372036854775807
theorem bStep_nonneg (x : DStep) : 0 ≤ bStep x := by
  unfold bStep
  omega
def cnStep (x : DStep) : Int := 5
theorem cnStep_nonneg (x : DStep) : 0 ≤ cnStep x := by
  unfold cnStep
  omega
def mkStep (x : DStep) (k : Int) : DStep := ⟨k, ⟨k + 1, mtext (k + 1 + 1), mtext (k + 1 + 1 + 1), mtext (k + 1 + 1 + 1 + 1)⟩⟩
def DStep.enc (x : DStep) : List Value := [.int .i64 x.drive, .int .i64 x.op.kind, .string x.op.name, .string x.op.to_, .string x.op.text]
def kStep : Kd DStep := kFlat DStep.enc 5 (fun _ => rfl) (fun x u hu => by simp [DStep.enc] at hu; rcases hu with rfl | rfl | rfl | rfl | rfl <;> rfl)
theorem kStep_sz : kStep.sz = 5 := rfl
theorem rdStep {w : World} {A : Option Addr} {c : Nat} {xs : List DStep} (H : Rd kStep w A c xs) {k : Nat} (hk : k < xs.length) :
    ∃ b off, A = some ⟨b, off, none⟩ ∧ b < w.heap.size ∧ w.cell? ⟨b, off + k * 5, none⟩ = some (.int .i64 xs[k].drive) ∧ w.cell? ⟨b, off + k * 5 + 1, none⟩ = some (.int .i64 xs[k].op.kind) ∧ w.cell? ⟨b, off + k * 5 + 2, none⟩ = some (.string xs[k].op.name) ∧ w.cell? ⟨b, off + k * 5 + 3, none⟩ = some (.string xs[k].op.to_) ∧ w.cell? ⟨b, off + k * 5 + 4, none⟩ = some (.string xs[k].op.text) := by
  obtain ⟨b, off, ha, hb, cs, hc, hs⟩ := H.at (by decide) hk
  rw [show cs = xs[k].enc from hc] at hs
  exact ⟨b, off, ha, hb, hs 0 _ rfl, hs 1 _ rfl, hs 2 _ rfl, hs 3 _ rfl, hs 4 _ rfl⟩
theorem kInt_sz : kInt.sz = 1 := rfl
theorem kStr_sz : kStr.sz = 1 := rfl
theorem rdInt {w : World} {A : Option Addr} {c : Nat} {xs : List Int} (H : Rd kInt w A c xs) {k : Nat} (hk : k < xs.length) :
    ∃ b off, A = some ⟨b, off, none⟩ ∧ b < w.heap.size ∧ w.cell? ⟨b, off + k, none⟩ = some (.int .i64 xs[k]) := by
  obtain ⟨b, off, ha, hb, cs, hc, hs⟩ := H.at (by decide) hk
  rw [show cs = [.int .i64 xs[k]] from hc] at hs
  have := hs 0 _ rfl
  exact ⟨b, off, ha, hb, by simpa [kInt, kFlat] using this⟩
theorem rdStr {w : World} {A : Option Addr} {c : Nat} {xs : List ByteArray} (H : Rd kStr w A c xs) {k : Nat} (hk : k < xs.length) :
    ∃ b off, A = some ⟨b, off, none⟩ ∧ b < w.heap.size ∧ w.cell? ⟨b, off + k, none⟩ = some (.string xs[k]) := by
  obtain ⟨b, off, ha, hb, cs, hc, hs⟩ := H.at (by decide) hk
  rw [show cs = [.string xs[k]] from hc] at hs
  have := hs 0 _ rfl
  exact ⟨b, off, ha, hb, by simpa [kStr, kFlat] using this⟩
end Go.Proofs.Ytdgnpkffdiopaaa
