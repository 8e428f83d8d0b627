/- What the program's functions on texts and drives reckon, as plain Lean functions; the order of names; the place of a file in a drive. -/
import Derived.Test.YtlijeincckbdaaaQe
import Derived.Lib.Strings
import Derived.Lib.Bytealg
import Derived.Test.YtlijeincckbdaaaQT
import Derived.Lib.Slices
import Derived.Lib.Walk
import Derived.Laws.Closers25b
namespace Go.Proofs.Ytlijeincckbdaaa
open Go.RowKit
set_option linter.unusedSimpArgs false
set_option linter.unusedVariables false
/-- Bytes before bytes. -/
def bLt (a b : ByteArray) : Bool := sless a b
/-- May a byte stand in a name at a place? -/
def nmAt (s : ByteArray) (i : Nat) : Bool :=
  let c := (s.data.toList.getD i 0).toNat
  (decide (97 ≤ c) && decide (c ≤ 122)) || (decide (i ≠ 0) && ((decide (48 ≤ c) && decide (c ≤ 57)) || decide (c = 45)))
theorem nmAt_t {s : ByteArray} {i : Nat} (h : (97 ≤ (s.data.toList.getD i 0).toNat ∧ (s.data.toList.getD i 0).toNat ≤ 122) ∨ (i ≠ 0 ∧ ((48 ≤ (s.data.toList.getD i 0).toNat ∧ (s.data.toList.getD i 0).toNat ≤ 57) ∨ (s.data.toList.getD i 0).toNat = 45))) : nmAt s i = true := by
  simp only [nmAt, Bool.or_eq_true, Bool.and_eq_true, decide_eq_true_eq]; exact h
theorem nmAt_f {s : ByteArray} {i : Nat} (h : ¬ ((97 ≤ (s.data.toList.getD i 0).toNat ∧ (s.data.toList.getD i 0).toNat ≤ 122) ∨ (i ≠ 0 ∧ ((48 ≤ (s.data.toList.getD i 0).toNat ∧ (s.data.toList.getD i 0).toNat ≤ 57) ∨ (s.data.toList.getD i 0).toNat = 45)))) : nmAt s i = false := by
  rw [Bool.eq_false_iff]; intro e; apply h
  simpa only [nmAt, Bool.or_eq_true, Bool.and_eq_true, decide_eq_true_eq] using e
def nameOk (s : ByteArray) (most : Int) : Bool := (List.range s.size).all (nmAt s) && (decide ((1 : Int) ≤ s.size) && decide ((s.size : Int) ≤ most))
theorem range_all_true {n : Nat} {p : Nat → Bool} (h : ∀ j, j < n → p j = true) : (List.range n).all p = true := by
  rw [List.all_eq_true]; intro j hj; exact h j (List.mem_range.1 hj)
theorem range_all_false {n j : Nat} {p : Nat → Bool} (hj : j < n) (h : p j = false) : (List.range n).all p = false := by
  rw [List.all_eq_false]; exact ⟨j, List.mem_range.2 hj, by simp [h]⟩
def usedN (fs : List DStored) : Nat := (fs.map fun f => f.text.size).sum
theorem usedN_take_succ {fs : List DStored} {k : Nat} (hk : k < fs.length) : usedN (fs.take (k + 1)) = usedN (fs.take k) + fs[k].text.size := wsum_take_succ (f := fun f : DStored => f.text.size) hk
theorem usedN_take_le (fs : List DStored) (k : Nat) : usedN (fs.take k) ≤ usedN fs := sum_take_le _ fs k
theorem usedN_le (fs : List DStored) : usedN fs ≤ wL DStored.wt fs := by
  unfold wL usedN
  induction fs with
  | nil => simp
  | cons f fs ih =>
    have : f.wt = f.name.size + f.text.size := rfl
    simp only [List.map_cons, List.sum_cons, List.length_cons] at ih ⊢
    omega
/-- Is file i right, and behind the one ahead of it? -/
def fOk (fs : List DStored) (i : Nat) : Bool :=
  match fs[i]? with
  | none => false
  | some f => nameOk f.name 80 && (decide (i = 0) || bLt ((fs[i - 1]?).getD f).name f.name) && decide (f.text.size ≤ 20000) && decide (0 ≤ f.synced) && decide (f.synced ≤ f.text.size)
def filesOk (fs : List DStored) : Bool := (List.range fs.length).all (fOk fs)
def driveOk (d : DDrive) : Bool := decide (d.files.length ≤ 60) && decide (0 ≤ d.room) && decide (d.room ≤ 100000) && filesOk d.files && decide ((usedN d.files : Int) ≤ d.room)
theorem fOk_eq {fs : List DStored} {i : Nat} (hi : i < fs.length) : fOk fs i = (nameOk fs[i].name 80 && (decide (i = 0) || bLt (fs[i - 1]'(by omega)).name fs[i].name) && decide (fs[i].text.size ≤ 20000) && decide (0 ≤ fs[i].synced) && decide (fs[i].synced ≤ fs[i].text.size)) := by
  unfold fOk
  rw [List.getElem?_eq_getElem hi, List.getElem?_eq_getElem (show i - 1 < fs.length by omega)]; rfl
/-- A file behind a crash. -/
def crashN (keep : List Int) (i : Nat) (f : DStored) : Int := f.synced + (if 0 < (keep[i]?).getD 0 then min ((keep[i]?).getD 0) (f.text.size - f.synced) else 0)
def crashOne (keep : List Int) (i : Nat) (f : DStored) : DStored := ⟨f.name, f.text.extract 0 (crashN keep i f).toNat, crashN keep i f⟩
def crash (keep : List Int) (d : DDrive) : DDrive := ⟨d.files.mapIdx (crashOne keep), d.room⟩
theorem fOk_of {d : DDrive} (h : driveOk d = true) {k : Nat} (hk : k < d.files.length) : nameOk d.files[k].name 80 = true ∧ d.files[k].text.size ≤ 20000 ∧ 0 ≤ d.files[k].synced ∧ d.files[k].synced ≤ d.files[k].text.size := by
  unfold driveOk at h
  simp only [Bool.and_eq_true] at h
  have h1 := List.all_eq_true.1 h.1.2 k (List.mem_range.2 hk)
  rw [fOk_eq hk] at h1
  simp only [Bool.and_eq_true, decide_eq_true_eq] at h1
  exact ⟨h1.1.1.1.1, h1.1.1.2, h1.1.2, h1.2⟩
theorem bytesLess_lt : ∀ (x y : List UInt8), Op.bytesLess x y = decide (x < y)
  | [], [] => by simp [Op.bytesLess]
  | _ :: _, [] => by simp [Op.bytesLess]
  | [], _ :: _ => by simp [Op.bytesLess]
  | a :: x, b :: y => by
    rw [Op.bytesLess, bytesLess_lt x y]
    simp only [List.cons_lt_cons_iff]
    by_cases h1 : a < b <;> by_cases h2 : a = b <;> by_cases h3 : x < y <;> simp [h1, h2, h3]
theorem u8_trans {a b c : UInt8} (h : a < b) (k : b < c) : a < c := by rw [UInt8.lt_iff_toNat_lt] at *; omega
theorem u8_irrefl (a : UInt8) : ¬ a < a := by rw [UInt8.lt_iff_toNat_lt]; omega
theorem u8_tri (a b : UInt8) : a < b ∨ a = b ∨ b < a := by
  rcases Nat.lt_trichotomy a.toNat b.toNat with h | h | h
  · exact .inl (UInt8.lt_iff_toNat_lt.2 h)
  · exact .inr (.inl (UInt8.toNat_inj.1 h))
  · exact .inr (.inr (UInt8.lt_iff_toNat_lt.2 h))
theorem bytes_trans : ∀ {x y z : List UInt8}, x < y → y < z → x < z
  | _, [], _, h, _ => by simp at h
  | [], _ :: _, [], _, k => by simp at k
  | [], _ :: _, _ :: _, _, _ => by simp
  | _ :: _, _ :: _, [], _, k => by simp at k
  | a :: x, b :: y, c :: z, h, k => by
    simp only [List.cons_lt_cons_iff] at *
    rcases h with h | ⟨rfl, h⟩
    · rcases k with k | ⟨rfl, k⟩
      · exact .inl (u8_trans h k)
      · exact .inl h
    · rcases k with k | ⟨rfl, k⟩
      · exact .inl k
      · exact .inr ⟨rfl, bytes_trans h k⟩
theorem bytes_irrefl : ∀ (x : List UInt8), ¬ x < x
  | [] => by simp
  | a :: x => by
    simp only [List.cons_lt_cons_iff]
    intro h
    rcases h with h | ⟨_, h⟩
    · exact u8_irrefl a h
    · exact bytes_irrefl x h
theorem cmp_neg : ∀ (x y : List UInt8), Lib.compareBytes x y < 0 ↔ x < y
  | [], [] => by simp [Lib.compareBytes]
  | _ :: _, [] => by simp [Lib.compareBytes]
  | [], _ :: _ => by simp [Lib.compareBytes]
  | a :: x, b :: y => by
    simp only [Lib.compareBytes, List.cons_lt_cons_iff]
    by_cases h1 : a < b
    · simp [h1]
    · by_cases h2 : b < a
      · have : a ≠ b := fun e => u8_irrefl a (by rw [e] at h2 ⊢; exact h2)
        simp [h1, h2, this]
      · have : a = b := by
          rcases u8_tri a b with h | h | h
          · exact absurd h h1
          · exact h
          · exact absurd h h2
        simp [h1, h2, this, cmp_neg x y, u8_irrefl]
theorem cmp_zero : ∀ (x y : List UInt8), Lib.compareBytes x y = 0 ↔ x = y
  | [], [] => by simp [Lib.compareBytes]
  | _ :: _, [] => by simp [Lib.compareBytes]
  | [], _ :: _ => by simp [Lib.compareBytes]
  | a :: x, b :: y => by
    simp only [Lib.compareBytes]
    by_cases h1 : a < b
    · have : a ≠ b := fun e => u8_irrefl b (by rw [e] at h1; exact h1)
      simp [h1, this]
    · by_cases h2 : b < a
      · have : a ≠ b := fun e => u8_irrefl b (by rw [e] at h2; exact h2)
        simp [h1, h2, this]
      · have : a = b := by
          rcases u8_tri a b with h | h | h
          · exact absurd h h1
          · exact h
          · exact absurd h h2
        simp [h1, h2, this, cmp_zero x y, u8_irrefl]
theorem bLt_iff (a b : ByteArray) : bLt a b = true ↔ a.data.toList < b.data.toList := by
  unfold bLt sless
  rw [bytesLess_lt, Lib.toList_data, Lib.toList_data]; simp
theorem bLt_trans {a b c : ByteArray} (h : bLt a b = true) (k : bLt b c = true) : bLt a c = true := (bLt_iff a c).2 (bytes_trans ((bLt_iff a b).1 h) ((bLt_iff b c).1 k))
theorem bLt_irrefl (a : ByteArray) : bLt a a = false := by
  rw [Bool.eq_false_iff]; exact fun h => bytes_irrefl _ ((bLt_iff a a).1 h)
theorem bytes_eq {a b : ByteArray} (h : a.data.toList = b.data.toList) : a = b := by
  cases a; cases b; simp at h; simpa using h
def cmpB (a b : ByteArray) : Int := Lib.compareBytes a.data.toList b.data.toList
theorem cmpB_neg (a b : ByteArray) : cmpB a b < 0 ↔ bLt a b = true := (cmp_neg _ _).trans (bLt_iff a b).symm
theorem cmpB_zero (a b : ByteArray) : cmpB a b = 0 ↔ a = b := (cmp_zero _ _).trans ⟨bytes_eq, fun h => by rw [h]⟩
theorem sorted_of {d : DDrive} (h : driveOk d = true) : ∀ (j i : Nat) (hi : i < j) (hj : j < d.files.length), bLt (d.files[i]'(by omega)).name d.files[j].name = true := by
  have step : ∀ j (hj : j + 1 < d.files.length), bLt (d.files[j]'(by omega)).name d.files[j + 1].name = true := fun j hj => by
    unfold driveOk at h
    simp only [Bool.and_eq_true] at h
    have h1 := List.all_eq_true.1 h.1.2 (j + 1) (List.mem_range.2 hj)
    rw [fOk_eq hj] at h1
    simp only [Bool.and_eq_true, Bool.or_eq_true, decide_eq_true_eq] at h1
    rcases h1.1.1.1.2 with h2 | h2
    · omega
    · exact h2
  intro j
  induction j with
  | zero => intro i hi; omega
  | succ j ih =>
    intro i hi hj
    by_cases e : i = j
    · subst e; exact step i hj
    · exact bLt_trans (ih i (by omega) (by omega)) (step j hj)
/-- The place of a name among names in order, and whether it is there. -/
def findP (fs : List DStored) (name : ByteArray) : Nat := fs.countP fun f => bLt f.name name
def hasN (fs : List DStored) (name : ByteArray) : Bool := fs.any fun f => decide (f.name = name)
theorem countP_cut {α : Type} {p : α → Bool} : ∀ (l : List α) (i : Nat), i ≤ l.length → (∀ t (h : t < l.length), t < i → p l[t] = true) → (∀ t (h : t < l.length), i ≤ t → p l[t] = false) → l.countP p = i
  | [], i, hi, _, _ => by simp at hi; simp [hi]
  | a :: r, 0, _, _, h2 => by
    rw [List.countP_eq_zero]
    intro x hx
    obtain ⟨t, ht, rfl⟩ := List.getElem_of_mem hx
    simp [h2 t ht (Nat.zero_le _)]
  | a :: r, i + 1, hi, h1, h2 => by
    have ha : p a = true := h1 0 (by simp) (Nat.succ_pos _)
    rw [List.countP_cons_of_pos ha, countP_cut r i (by simpa using hi) (fun t h ht => h1 (t + 1) (by simpa using h) (by omega)) (fun t h ht => h2 (t + 1) (by simpa using h) (by omega))]
theorem findP_cut {fs : List DStored} {name : ByteArray} {k : Nat} (hk : k ≤ fs.length) (h1 : ∀ t (h : t < fs.length), t < k → cmpB fs[t].name name < 0) (h2 : ∀ t (h : t < fs.length), k ≤ t → 0 ≤ cmpB fs[t].name name) : findP fs name = k :=
  countP_cut fs k hk (fun t h ht => (cmpB_neg _ _).1 (h1 t h ht)) (fun t h ht => by rw [Bool.eq_false_iff]; exact fun e => by have := h2 t h ht; have := (cmpB_neg _ _).2 e; omega)
theorem hasN_cut {d : DDrive} (hd : driveOk d = true) {name : ByteArray} {k : Nat} (hk : k < d.files.length) (h1 : ∀ t (h : t < d.files.length), t < k → cmpB d.files[t].name name < 0) (h2 : ∀ t (h : t < d.files.length), k ≤ t → 0 ≤ cmpB d.files[t].name name) : hasN d.files name = decide (cmpB d.files[k].name name = 0) := by
  rw [Bool.eq_iff_iff, decide_eq_true_eq, hasN, List.any_eq_true]
  constructor
  · rintro ⟨f, hf, e⟩
    obtain ⟨i, hi, rfl⟩ := List.getElem_of_mem hf
    have e := of_decide_eq_true e
    have h0 := (cmpB_zero _ _).2 e
    by_cases hik : i < k
    · have := h1 i hi hik; omega
    · by_cases e2 : i = k
      · subst e2; exact h0
      · have h3 := sorted_of hd i k (by omega) hi
        rw [e] at h3
        have := (cmpB_neg _ _).2 h3
        have := h2 k hk (Nat.le_refl _)
        omega
  · intro h
    exact ⟨_, List.getElem_mem hk, by simpa using (cmpB_zero _ _).1 h⟩
theorem hasN_none {fs : List DStored} {name : ByteArray} (h1 : ∀ t (h : t < fs.length), cmpB fs[t].name name < 0) : hasN fs name = false := by
  rw [Bool.eq_false_iff]
  intro h
  rw [hasN, List.any_eq_true] at h
  obtain ⟨f, hf, e⟩ := h
  obtain ⟨i, hi, rfl⟩ := List.getElem_of_mem hf
  have := (cmpB_zero _ _).2 (of_decide_eq_true e)
  have := h1 i hi
  omega
def findI (fs : List DStored) (name : ByteArray) : Int := if hasN fs name then ((fs.findIdx fun f => decide (f.name = name) : Nat) : Int) else -1
theorem findI_at {fs : List DStored} {name : ByteArray} {k : Nat} (hk : k < fs.length) (h1 : ∀ t (h : t < fs.length), t < k → fs[t].name ≠ name) (h2 : fs[k].name = name) : findI fs name = k := by
  have h : hasN fs name = true := by rw [hasN, List.any_eq_true]; exact ⟨_, List.getElem_mem hk, by simpa using h2⟩
  rw [findI, if_pos h]
  have : (fs.findIdx fun f => decide (f.name = name)) = k := by
    rw [List.findIdx_eq hk]
    exact ⟨by simpa using h2, fun j hj => by simpa using h1 j (by omega) hj⟩
  rw [this]
theorem findI_none {fs : List DStored} {name : ByteArray} (h1 : ∀ t (h : t < fs.length), fs[t].name ≠ name) : findI fs name = -1 ∧ hasN fs name = false := by
  have h : hasN fs name = false := by
    rw [Bool.eq_false_iff]
    intro h
    rw [hasN, List.any_eq_true] at h
    obtain ⟨f, hf, e⟩ := h
    obtain ⟨i, hi, rfl⟩ := List.getElem_of_mem hf
    exact h1 i hi (of_decide_eq_true e)
  rw [findI, h]
  exact ⟨rfl, rfl⟩
/-- In a right drive the search by halves finds the first place. -/
theorem findI_eq {d : DDrive} (hd : driveOk d = true) {name : ByteArray} (h : hasN d.files name = true) : ∃ hp : findP d.files name < d.files.length, findI d.files name = findP d.files name ∧ (d.files[findP d.files name]'hp).name = name := by
  rw [hasN, List.any_eq_true] at h
  obtain ⟨f, hf, e⟩ := h
  obtain ⟨i, hi, rfl⟩ := List.getElem_of_mem hf
  have e := of_decide_eq_true e
  have hlt : ∀ t (h : t < d.files.length), t < i → bLt d.files[t].name name = true := fun t h ht => by rw [← e]; exact sorted_of hd i t ht hi
  have hge : ∀ t (h : t < d.files.length), i ≤ t → bLt d.files[t].name name = false := fun t h ht => by
    by_cases e2 : t = i
    · subst e2; rw [e]; exact bLt_irrefl _
    · rw [Bool.eq_false_iff]
      intro h3
      have h4 := sorted_of hd t i (by omega) h
      rw [e] at h4
      have := bLt_trans h3 h4
      have h5 := bLt_irrefl d.files[t].name
      rw [h5] at this; cases this
  have hP : findP d.files name = i := countP_cut _ i (by omega) hlt hge
  refine ⟨by omega, ?_, ?_⟩
  · rw [hP]
    refine findI_at hi (fun t h ht e2 => ?_) e
    have h6 := hlt t h ht
    have h7 := bLt_irrefl name
    rw [e2, h7] at h6; cases h6
  · simp only [hP]; exact e
theorem str_ne {a b : ByteArray} (h : ¬ a = b) : (a.toList == b.toList) = false := by
  rw [beq_eq_false_iff_ne, Lib.toList_data, Lib.toList_data]; exact fun e => h (bytes_eq e)
end Go.Proofs.Ytlijeincckbdaaa
namespace Go.Proofs.Ytlijeincckbdaaa
open Go.RowKit
set_option linter.unusedSimpArgs false
set_option linter.unusedVariables false
/-- What each element gives, one behind the other; each is told its number. -/
def accI {α β : Type} (f : Nat → α → List β) : Nat → List α → List β
  | _, [] => []
  | i, x :: xs => f i x ++ accI f (i + 1) xs
theorem accI_append {α β : Type} (f : Nat → α → List β) : ∀ (xs ys : List α) (i : Nat), accI f i (xs ++ ys) = accI f i xs ++ accI f (i + xs.length) ys
  | [], ys, i => by simp [accI]
  | x :: xs, ys, i => by
    simp only [List.cons_append, accI, accI_append f xs ys (i + 1), List.append_assoc, List.length_cons]
    rw [show i + 1 + xs.length = i + (xs.length + 1) by omega]
theorem accI_take_succ {α β : Type} {f : Nat → α → List β} {l : List α} {i : Nat} (h : i < l.length) : accI f 0 (l.take (i + 1)) = accI f 0 (l.take i) ++ f i l[i] := by
  rw [List.take_succ_eq_append_getElem h, accI_append]
  simp only [accI, List.append_nil, List.length_take, Nat.zero_add]
  rw [Nat.min_eq_left (by omega)]
theorem accI_len {α β : Type} {f : Nat → α → List β} {g : α → Nat} (h : ∀ i x, (f i x).length ≤ g x) : ∀ (l : List α) (i : Nat), (accI f i l).length ≤ (l.map g).sum
  | [], i => by simp [accI]
  | x :: l, i => by
    have h1 := h i x
    have h2 := accI_len h l (i + 1)
    simp only [accI, List.length_append, List.map_cons, List.sum_cons]; omega
theorem accI_len_le {α β : Type} {f : Nat → α → List β} {g : α → Nat} (h : ∀ i x, (f i x).length ≤ g x) (l : List α) (i : Nat) : (accI f 0 (l.take i)).length ≤ (l.map g).sum :=
  Nat.le_trans (accI_len h _ 0) (sum_take_le g l i)
theorem accI_mem {α β : Type} {f : Nat → α → List β} : ∀ {l : List α} {i : Nat} {y : β}, y ∈ accI f i l → ∃ j x, x ∈ l ∧ i ≤ j ∧ j < i + l.length ∧ y ∈ f j x
  | [], i, y, h => by simp [accI] at h
  | x :: l, i, y, h => by
    simp only [accI, List.mem_append] at h
    rcases h with h | h
    · exact ⟨i, x, by simp, Nat.le_refl _, by simp, h⟩
    · obtain ⟨j, z, h1, h2, h3, h4⟩ := accI_mem h
      exact ⟨j, z, by simp [h1], by omega, by simp; omega, h4⟩
/-- Elements that are such, turned. -/
theorem filterMap_take_succ {α β : Type} {p : α → Bool} {f : α → β} {l : List α} {i : Nat} (h : i < l.length) : ((l.take (i + 1)).filter p).map f = ((l.take i).filter p).map f ++ (if p l[i] = true then [f l[i]] else []) := by
  rw [List.take_succ_eq_append_getElem h, List.filter_append, List.map_append]
  congr 1
  by_cases hp : p l[i] = true <;> simp [hp]
def codeOk (k m : Int) : Bool := decide (1 ≤ k) && decide (k ≤ 8) && decide (0 ≤ m) && decide (m ≤ 6)
def arrayOk (x : DArray) : Bool := codeOk x.k x.m && decide ((x.drives.length : Int) = x.k + x.m) && x.drives.all driveOk
def rmOp (name : ByteArray) : DOp := ⟨4, name, .empty, .empty⟩
def rmStep (i : Nat) (name : ByteArray) : DStep := ⟨(i : Nat), rmOp name⟩
def isTmp (s : ByteArray) : Bool := decide (2 ≤ s.size) && decide (s.extract 0 2 = ⟨#[116, 45]⟩)
def cleanD (i : Nat) (d : DDrive) : List DStep := (d.files.filter fun f => isTmp f.name).map fun f => rmStep i f.name
def cleanA (x : DArray) : List DStep := accI cleanD 0 x.drives
def removeA (name : ByteArray) (x : DArray) : List DStep := accI (fun i d => if hasN d.files name = true then [rmStep i name] else []) 0 x.drives
theorem cleanD_len (i : Nat) (d : DDrive) : (cleanD i d).length ≤ d.files.length := by simp [cleanD, List.length_filter_le]
theorem driveOk_len {d : DDrive} (h : driveOk d = true) : d.files.length ≤ 60 := by
  simp only [driveOk, Bool.and_eq_true, decide_eq_true_eq] at h; exact h.1.1.1.1
theorem arrayOk_len {x : DArray} (h : arrayOk x = true) : x.drives.length ≤ 14 ∧ (∀ d ∈ x.drives, driveOk d = true) ∧ 1 ≤ x.k ∧ x.k ≤ 8 ∧ 0 ≤ x.m ∧ x.m ≤ 6 ∧ (x.drives.length : Int) = x.k + x.m := by
  simp only [arrayOk, codeOk, Bool.and_eq_true, decide_eq_true_eq, List.all_eq_true] at h
  obtain ⟨⟨⟨⟨⟨h1, h2⟩, h3⟩, h4⟩, h5⟩, h6⟩ := h
  exact ⟨by omega, h6, h1, h2, h3, h4, h5⟩
theorem sum_le_mul {α : Type} {f : α → Nat} {B : Nat} : ∀ {l : List α}, (∀ x ∈ l, f x ≤ B) → (l.map f).sum ≤ B * l.length
  | [], _ => by simp
  | x :: l, h => by
    have h1 := h x (by simp)
    have h2 := sum_le_mul (l := l) fun y hy => h y (by simp [hy])
    simp only [List.map_cons, List.sum_cons, List.length_cons, Nat.mul_add]; omega
end Go.Proofs.Ytlijeincckbdaaa
namespace Go.Proofs.Ytlijeincckbdaaa
open Go.RowKit
set_option linter.unusedSimpArgs false
set_option linter.unusedVariables false
set_option maxRecDepth 100000
theorem within_c (a b c : Int) : Fun1 Try.prog 93 [.one (.lit (.int .i64 a)), .one (.lit (.int .i64 b)), .one (.lit (.int .i64 c))] (.one (.lit (.bool (decide (b ≤ a) && decide (a ≤ c))))) := by
  refine fun1_of_vc tb_ok mix (fn := Try.f93) Try.func93 rfl (by kernel_rfl) (by kernel_rfl) (by simp [Try.f93]) (by rfl) ?_
  (conv => whnf)
  (repeat' (split <;> rename_i hb <;> (try simp only [decide_eq_true_eq, decide_eq_false_iff_not, Bool.not_eq_true', Bool.not_eq_false', Bool.not_eq_true, Bool.not_eq_false, List.length_map] at hb) <;> conv => whnf))
  all_goals exact ⟨close_bool (by simp [*]), trivial⟩
theorem long_c (s : ByteArray) : Fun1 Try.prog 94 [.one (.lit (.string s))] (.one (.lit (.int .i64 (s.size : Nat)))) := by
  refine fun1_of_vc tb_ok mix (fn := Try.f94) Try.func94 rfl (by kernel_rfl) (by kernel_rfl) (by simp [Try.f94]) (by rfl) ?_
  (conv => whnf)
  exact (by repeat' (first | exact trivial | exact close_int rfl | exact close_str rfl | exact close_bool rfl | exact close_int (by omega) | exact close_row rfl rfl (by first | rfl | simp) (by first | rfl | simp) | exact close_nil (by first | rfl | simp) | exact rfl | apply And.intro | apply closeTs_cons rfl))
theorem isLong_c (s : ByteArray) : Fun1 Try.prog 89 [.one (.lit (.string s))] (.one (.lit (.bool (decide (20000 < (s.size : Int)))))) := by
  refine fun1_of_vc tb_ok mix (fn := Try.f89) Try.func89 rfl (by kernel_rfl) (by kernel_rfl) (by simp [Try.f89]) (by rfl) ?_
  (conv => whnf)
  exact (by repeat' (first | exact trivial | exact close_int rfl | exact close_str rfl | exact close_bool rfl | exact close_int (by omega) | exact close_row rfl rfl (by first | rfl | simp) (by first | rfl | simp) | exact close_nil (by first | rfl | simp) | exact rfl | apply And.intro | apply closeTs_cons rfl))
theorem isByte_c (a : Int) : Fun1 Try.prog 91 [.one (.lit (.int .i64 a))] (.one (.lit (.bool (decide (0 ≤ a) && decide (a ≤ 255))))) := by
  refine fun1_of_vc tb_ok mix (fn := Try.f91) Try.func91 rfl (by kernel_rfl) (by kernel_rfl) (by simp [Try.f91]) (by rfl) ?_
  (conv => whnf)
  refine ⟨_, _, within_c a 0 255, (by repeat' (first | exact lends_nil | exact lend_dead | apply lends_cons | apply lend_agg | apply lend_one | exact all2_nil | apply all2_cons | exact la_lit rfl | exact la_int (by first | rfl | omega) | exact la_row rfl rfl | exact la_loc rfl rfl rfl (by first | rfl | simp [mkL_length]) (by first | rfl | simp) | exact la_nil rfl | apply la_fn rfl | exact lend_same rfl rfl | exact lend_bor rfl rfl)), ?_⟩; (conv => whnf)
  exact (by repeat' (first | exact trivial | exact close_int rfl | exact close_str rfl | exact close_bool rfl | exact close_int (by omega) | exact close_row rfl rfl (by first | rfl | simp) (by first | rfl | simp) | exact close_nil (by first | rfl | simp) | exact rfl | apply And.intro | apply closeTs_cons rfl))
theorem l02Byte_c (a : Int) : Fun1 Try.prog 87 [.one (.lit (.int .i64 a))] (.one (.lit (.bool (decide (0 ≤ a) && decide (a ≤ 255))))) := by
  refine fun1_of_vc tb_ok mix (fn := Try.f87) Try.func87 rfl (by kernel_rfl) (by kernel_rfl) (by simp [Try.f87]) (by rfl) ?_
  (conv => whnf)
  (repeat' (split <;> rename_i hb <;> (try simp only [decide_eq_true_eq, decide_eq_false_iff_not, Bool.not_eq_true', Bool.not_eq_false', Bool.not_eq_true, Bool.not_eq_false, List.length_map] at hb) <;> conv => whnf))
  all_goals exact ⟨close_bool (by simp [*]), trivial⟩
theorem nameSpec_c (s : ByteArray) (hs : s.size ≤ 4294967296) : Fun1 Try.prog 119 [.one (.lit (.string s))] (.one (.lit (.bool (nameOk s 80)))) := by
  refine fun1_of_vc tb_ok mix (fn := Try.f119) Try.func119 rfl (by kernel_rfl) (by kernel_rfl) (by simp [Try.f119]) (by rfl) ?_
  (conv => whnf)
  (repeat' (split <;> rename_i hb <;> (try simp only [decide_eq_true_eq, decide_eq_false_iff_not, Bool.not_eq_true', Bool.not_eq_false', Bool.not_eq_true, Bool.not_eq_false, List.length_map] at hb) <;> conv => whnf))
  · exact ⟨close_bool (by simp [nameOk]; omega), trivial⟩
  · exact ⟨close_bool (by simp [nameOk]; omega), trivial⟩
  rename_i hb1 _ hb2
  refine ⟨LG (fun i : Nat => i ≤ s.size ∧ ∀ j, j < i → nmAt s j = true) (fun i => s.size - i) (fun i => AS.of [(0, .one (.lit (.string s))), (3, .one (.lit (.int .i64 (i : Nat))))] []), lg_init 0 ⟨by omega, fun j h => by omega⟩ (weak_of (by repeat (first | refine all_cons (by first | rfl | exact eq_int rfl (by first | rfl | omega | (simp; done) | (simp; omega)) | exact eq_loc rfl (by first | rfl | omega | (simp; done) | (simp; omega)) | exact eq_bool rfl (by simp_all)) ?_ | exact all_nil)) (by repeat (first | refine all_cons (by first | rfl | exact eq_int rfl (by first | rfl | omega | (simp; done) | (simp; omega)) | exact eq_loc rfl (by first | rfl | omega | (simp; done) | (simp; omega)) | exact eq_bool rfl (by simp_all)) ?_ | exact all_nil)) rfl rfl), ?_⟩
  rintro σ k ⟨i, ⟨hi, hc⟩, rfl, rfl⟩
  refine ⟨_, Weak.refl _, ?_⟩
  (conv => whnf)
  (split <;> rename_i h <;> (try simp only [decide_eq_true_eq, decide_eq_false_iff_not, Bool.not_eq_true', Bool.not_eq_false', Bool.not_eq_true, Bool.not_eq_false, List.length_map] at h) <;> conv => whnf)
  · refine ⟨i, rfl, by omega, ?_⟩; (conv => whnf)
    (repeat' (split <;> rename_i hb <;> (try simp only [decide_eq_true_eq, decide_eq_false_iff_not, Bool.not_eq_true', Bool.not_eq_false', Bool.not_eq_true, Bool.not_eq_false, List.length_map] at hb) <;> conv => whnf))
    all_goals first
      | (refine ⟨close_bool ?_, trivial⟩; have hn : nmAt s i = false := nmAt_f (by omega); simp only [nameOk, range_all_false (p := nmAt s) (n := s.size) (j := i) (by omega) hn, Bool.false_and]; done)
      | ((refine ⟨((i + 1 : Nat) : Int), by rw [← wrap64_id] <;> omega, ?_⟩; conv => whnf); exact lg_back (i + 1) ⟨by omega, fun j hj => by
          by_cases e : j = i
          · subst e; exact nmAt_t (by omega)
          · exact hc j (by omega)⟩ (by (try dsimp only); omega) (weak_of (by repeat (first | refine all_cons (by first | rfl | exact eq_int rfl (by first | rfl | omega | (simp; done) | (simp; omega)) | exact eq_loc rfl (by first | rfl | omega | (simp; done) | (simp; omega)) | exact eq_bool rfl (by simp_all)) ?_ | exact all_nil)) (by repeat (first | refine all_cons (by first | rfl | exact eq_int rfl (by first | rfl | omega | (simp; done) | (simp; omega)) | exact eq_loc rfl (by first | rfl | omega | (simp; done) | (simp; omega)) | exact eq_bool rfl (by simp_all)) ?_ | exact all_nil)) rfl rfl))
  · have : i = s.size := by omega
    subst this
    exact ⟨close_bool (by simp [nameOk, range_all_true hc]; omega), trivial⟩
theorem isName_c (s : ByteArray) (most : Int) (hs : s.size ≤ 4294967296) : Fun1 Try.prog 185 [.one (.lit (.string s)), .one (.lit (.int .i64 most))] (.one (.lit (.bool (nameOk s most)))) := by
  refine fun1_of_vc tb_ok mix (fn := Try.f185) Try.func185 rfl (by kernel_rfl) (by kernel_rfl) (by simp [Try.f185]) (by rfl) ?_
  (conv => whnf)
  refine ⟨LG (fun i : Nat => i ≤ s.size ∧ ∀ j, j < i → nmAt s j = true) (fun i => s.size - i) (fun i => AS.of [(0, .one (.lit (.string s))), (1, .one (.lit (.int .i64 most))), (8, .one (.lit (.int .i64 (s.size : Nat)))), (9, .one (.lit (.int .i64 (i : Nat))))] []), lg_init 0 ⟨by omega, fun j h => by omega⟩ (weak_of (by repeat (first | refine all_cons (by first | rfl | exact eq_int rfl (by first | rfl | omega | (simp; done) | (simp; omega)) | exact eq_loc rfl (by first | rfl | omega | (simp; done) | (simp; omega)) | exact eq_bool rfl (by simp_all)) ?_ | exact all_nil)) (by repeat (first | refine all_cons (by first | rfl | exact eq_int rfl (by first | rfl | omega | (simp; done) | (simp; omega)) | exact eq_loc rfl (by first | rfl | omega | (simp; done) | (simp; omega)) | exact eq_bool rfl (by simp_all)) ?_ | exact all_nil)) rfl rfl), ?_⟩
  rintro σ k ⟨i, ⟨hi, hc⟩, rfl, rfl⟩
  refine ⟨_, Weak.refl _, ?_⟩
  (conv => whnf)
  (split <;> rename_i h <;> (try simp only [decide_eq_true_eq, decide_eq_false_iff_not, Bool.not_eq_true', Bool.not_eq_false', Bool.not_eq_true, Bool.not_eq_false, List.length_map] at h) <;> conv => whnf)
  · refine ⟨i, rfl, by omega, ?_⟩; (conv => whnf)
    (repeat' (split <;> rename_i hb <;> (try simp only [decide_eq_true_eq, decide_eq_false_iff_not, Bool.not_eq_true', Bool.not_eq_false', Bool.not_eq_true, Bool.not_eq_false, List.length_map] at hb) <;> conv => whnf))
    all_goals first
      | (refine ⟨close_bool ?_, trivial⟩; have hn : nmAt s i = false := nmAt_f (by omega); simp only [nameOk, range_all_false (p := nmAt s) (n := s.size) (j := i) (by omega) hn, Bool.false_and]; done)
      | ((refine ⟨((i + 1 : Nat) : Int), by rw [← wrap64_id] <;> omega, ?_⟩; conv => whnf); exact lg_back (i + 1) ⟨by omega, fun j hj => by
          by_cases e : j = i
          · subst e; exact nmAt_t (by omega)
          · exact hc j (by omega)⟩ (by (try dsimp only); omega) (weak_of (by repeat (first | refine all_cons (by first | rfl | exact eq_int rfl (by first | rfl | omega | (simp; done) | (simp; omega)) | exact eq_loc rfl (by first | rfl | omega | (simp; done) | (simp; omega)) | exact eq_bool rfl (by simp_all)) ?_ | exact all_nil)) (by repeat (first | refine all_cons (by first | rfl | exact eq_int rfl (by first | rfl | omega | (simp; done) | (simp; omega)) | exact eq_loc rfl (by first | rfl | omega | (simp; done) | (simp; omega)) | exact eq_bool rfl (by simp_all)) ?_ | exact all_nil)) rfl rfl))
  · have : i = s.size := by omega
    subst this
    refine ⟨_, _, long_c s, (by repeat' (first | exact lends_nil | exact lend_dead | apply lends_cons | apply lend_agg | apply lend_one | exact all2_nil | apply all2_cons | exact la_lit rfl | exact la_int (by first | rfl | omega) | exact la_row rfl rfl | exact la_loc rfl rfl rfl (by first | rfl | simp [mkL_length]) (by first | rfl | simp) | exact la_nil rfl | apply la_fn rfl | exact lend_same rfl rfl | exact lend_bor rfl rfl)), ?_⟩; (conv => whnf)
    refine ⟨_, _, within_c s.size 1 most, (by repeat' (first | exact lends_nil | exact lend_dead | apply lends_cons | apply lend_agg | apply lend_one | exact all2_nil | apply all2_cons | exact la_lit rfl | exact la_int (by first | rfl | omega) | exact la_row rfl rfl | exact la_loc rfl rfl rfl (by first | rfl | simp [mkL_length]) (by first | rfl | simp) | exact la_nil rfl | apply la_fn rfl | exact lend_same rfl rfl | exact lend_bor rfl rfl)), ?_⟩; (conv => whnf)
    exact ⟨close_bool (by simp [nameOk, range_all_true hc]), trivial⟩
theorem nameImpl_c (s : ByteArray) (hs : s.size ≤ 4294967296) : Fun1 Try.prog 127 [.one (.lit (.string s))] (.one (.lit (.bool (nameOk s 80)))) := by
  refine fun1_of_vc tb_ok mix (fn := Try.f127) Try.func127 rfl (by kernel_rfl) (by kernel_rfl) (by simp [Try.f127]) (by rfl) ?_
  (conv => whnf)
  refine ⟨_, _, isName_c s 80 hs, (by repeat' (first | exact lends_nil | exact lend_dead | apply lends_cons | apply lend_agg | apply lend_one | exact all2_nil | apply all2_cons | exact la_lit rfl | exact la_int (by first | rfl | omega) | exact la_row rfl rfl | exact la_loc rfl rfl rfl (by first | rfl | simp [mkL_length]) (by first | rfl | simp) | exact la_nil rfl | apply la_fn rfl | exact lend_same rfl rfl | exact lend_bor rfl rfl)), ?_⟩; (conv => whnf)
  exact (by repeat' (first | exact trivial | exact close_int rfl | exact close_str rfl | exact close_bool rfl | exact close_int (by omega) | exact close_row rfl rfl (by first | rfl | simp) (by first | rfl | simp) | exact close_nil (by first | rfl | simp) | exact rfl | apply And.intro | apply closeTs_cons rfl))
end Go.Proofs.Ytlijeincckbdaaa
namespace Go.Proofs.Ytlijeincckbdaaa
open Go.RowKit
set_option linter.unusedSimpArgs false
set_option linter.unusedVariables false
set_option maxRecDepth 100000
theorem fOk_f {fs : List DStored} {i : Nat} (hi : i < fs.length) (h : ¬ (nameOk fs[i].name 80 = true ∧ (i = 0 ∨ sless (fs[i - 1]'(by omega)).name fs[i].name = true) ∧ fs[i].text.size ≤ 20000 ∧ 0 ≤ fs[i].synced ∧ fs[i].synced ≤ (fs[i].text.size : Int))) : fOk fs i = false := by
  rw [fOk_eq hi, Bool.eq_false_iff]; intro e; apply h
  simp only [Bool.and_eq_true, Bool.or_eq_true, decide_eq_true_eq, bLt] at e
  obtain ⟨⟨⟨⟨e1, e2⟩, e3⟩, e4⟩, e5⟩ := e
  exact ⟨e1, e2, e3, e4, e5⟩
theorem fOk_t {fs : List DStored} {i : Nat} (hi : i < fs.length) (h : nameOk fs[i].name 80 = true ∧ (i = 0 ∨ sless (fs[i - 1]'(by omega)).name fs[i].name = true) ∧ fs[i].text.size ≤ 20000 ∧ 0 ≤ fs[i].synced ∧ fs[i].synced ≤ (fs[i].text.size : Int)) : fOk fs i = true := by
  rw [fOk_eq hi]
  simp only [Bool.and_eq_true, Bool.or_eq_true, decide_eq_true_eq, bLt]
  exact ⟨⟨⟨⟨h.1, h.2.1⟩, h.2.2.1⟩, h.2.2.2.1⟩, h.2.2.2.2⟩
theorem driveOk_ff {d : DDrive} {i : Nat} (hi : i < d.files.length) (h : fOk d.files i = false) : driveOk d = false := by
  simp [driveOk, filesOk, range_all_false hi h]
theorem driveOk_end {d : DDrive} (h1 : d.files.length ≤ 60) (h2 : 0 ≤ d.room) (h3 : d.room ≤ 100000) (h4 : ∀ j, j < d.files.length → fOk d.files j = true) : driveOk d = decide ((usedN d.files : Int) ≤ d.room) := by
  simp [driveOk, filesOk, range_all_true h4, h1, h2, h3]
theorem usedImpl_c (x : DDrive) (hx : x.ok) (hu : usedN x.files ≤ 1000000000000) : Fun1 Try.prog 128 [.agg x.enc] (.one (.lit (.int .i64 (usedN x.files : Nat)))) := by
  obtain ⟨⟨hl, hf⟩, hr⟩ := hx
  refine fun1_of_vc tb_ok mix (fn := Try.f128) Try.func128 rfl (by kernel_rfl) (by kernel_rfl) (by simp [Try.f128]) (by rfl) ?_
  (conv => whnf)
  refine ⟨LG (fun i : Nat => i ≤ x.files.length) (fun i => x.files.length - i) (fun i => AS.of [(3, .one (.lit (.int .i64 (usedN (x.files.take i) : Nat)))), (7, .one (.row false 3 (x.files.map DStored.enc))), (8, .one (.lit (.int .i64 (x.files.length : Nat)))), (9, .one (.lit (.int .i64 (i : Nat))))] []), lg_init 0 (by omega) (weak_of (by repeat (first | refine all_cons (by first | rfl | exact eq_int rfl (by first | rfl | omega | (simp; done) | (simp; omega)) | exact eq_loc rfl (by first | rfl | omega | (simp; done) | (simp; omega)) | exact eq_bool rfl (by simp_all)) ?_ | exact all_nil)) (by repeat (first | refine all_cons (by first | rfl | exact eq_int rfl (by first | rfl | omega | (simp; done) | (simp; omega)) | exact eq_loc rfl (by first | rfl | omega | (simp; done) | (simp; omega)) | exact eq_bool rfl (by simp_all)) ?_ | exact all_nil)) rfl rfl), ?_⟩
  rintro σ k ⟨i, hi, rfl, rfl⟩
  refine ⟨_, Weak.refl _, ?_⟩
  (conv => whnf)
  (split <;> rename_i h <;> (try simp only [decide_eq_true_eq, decide_eq_false_iff_not, Bool.not_eq_true', Bool.not_eq_false', Bool.not_eq_true, Bool.not_eq_false, List.length_map] at h) <;> conv => whnf)
  · have hlt : i < x.files.length := by omega
    have h1 := usedN_take_succ hlt
    have h2 := usedN_take_le x.files (i + 1)
    refine ⟨i, rfl, _, at_map hlt, ?_⟩; (conv => whnf)
    refine ⟨_, _, long_c x.files[i].text, (by repeat' (first | exact lends_nil | exact lend_dead | apply lends_cons | apply lend_agg | apply lend_one | exact all2_nil | apply all2_cons | exact la_lit rfl | exact la_int (by first | rfl | omega) | exact la_row rfl rfl | exact la_loc rfl rfl rfl (by first | rfl | simp [mkL_length]) (by first | rfl | simp) | exact la_nil rfl | apply la_fn rfl | exact lend_same rfl rfl | exact lend_bor rfl rfl)), ?_⟩; (conv => whnf)
    refine ⟨((usedN (x.files.take (i + 1)) : Nat) : Int), by rw [← wrap64_id] <;> omega, ?_⟩; (conv => whnf)
    (refine ⟨((i + 1 : Nat) : Int), by rw [← wrap64_id] <;> omega, ?_⟩; conv => whnf)
    exact lg_back (i + 1) (by omega) (by (try dsimp only); omega) (weak_of (by repeat (first | refine all_cons (by first | rfl | exact eq_int rfl (by first | rfl | omega | (simp; done) | (simp; omega)) | exact eq_loc rfl (by first | rfl | omega | (simp; done) | (simp; omega)) | exact eq_bool rfl (by simp_all)) ?_ | exact all_nil)) (by repeat (first | refine all_cons (by first | rfl | exact eq_int rfl (by first | rfl | omega | (simp; done) | (simp; omega)) | exact eq_loc rfl (by first | rfl | omega | (simp; done) | (simp; omega)) | exact eq_bool rfl (by simp_all)) ?_ | exact all_nil)) rfl rfl)
  · have : i = x.files.length := by omega
    subst this
    exact ⟨close_int (by simp), trivial⟩
theorem usedSpec_c (x : DDrive) (hx : x.ok) (hu : usedN x.files ≤ 1000000000000) : Fun1 Try.prog 120 [.agg x.enc] (.one (.lit (.int .i64 (usedN x.files : Nat)))) := by
  obtain ⟨⟨hl, hf⟩, hr⟩ := hx
  refine fun1_of_vc tb_ok mix (fn := Try.f120) Try.func120 rfl (by kernel_rfl) (by kernel_rfl) (by simp [Try.f120]) (by rfl) ?_
  (conv => whnf)
  refine ⟨LG (fun i : Nat => i ≤ x.files.length) (fun i => x.files.length - i) (fun i => AS.of [(1, .one (.ptr 16 0)), (3, .one (.lit (.int .i64 (usedN (x.files.take i) : Nat)))), (4, .one (.lit (.int .i64 (i : Nat))))] [(16, .var x.enc)]), lg_init 0 (by omega) (weak_of (by repeat (first | refine all_cons (by first | rfl | exact eq_int rfl (by first | rfl | omega | (simp; done) | (simp; omega)) | exact eq_loc rfl (by first | rfl | omega | (simp; done) | (simp; omega)) | exact eq_bool rfl (by simp_all)) ?_ | exact all_nil)) (by repeat (first | refine all_cons (by first | rfl | exact eq_int rfl (by first | rfl | omega | (simp; done) | (simp; omega)) | exact eq_loc rfl (by first | rfl | omega | (simp; done) | (simp; omega)) | exact eq_bool rfl (by simp_all)) ?_ | exact all_nil)) rfl rfl), ?_⟩
  rintro σ k ⟨i, hi, rfl, rfl⟩
  refine ⟨_, Weak.refl _, ?_⟩
  (conv => whnf)
  (split <;> rename_i h <;> (try simp only [decide_eq_true_eq, decide_eq_false_iff_not, Bool.not_eq_true', Bool.not_eq_false', Bool.not_eq_true, Bool.not_eq_false, List.length_map] at h) <;> conv => whnf)
  · have hlt : i < x.files.length := by omega
    have h1 := usedN_take_succ hlt
    have h2 := usedN_take_le x.files (i + 1)
    refine ⟨i, rfl, _, at_map hlt, ?_⟩; (conv => whnf)
    refine ⟨((usedN (x.files.take (i + 1)) : Nat) : Int), by rw [← wrap64_id] <;> omega, ?_⟩; (conv => whnf)
    (refine ⟨((i + 1 : Nat) : Int), by rw [← wrap64_id] <;> omega, ?_⟩; conv => whnf)
    exact lg_back (i + 1) (by omega) (by (try dsimp only); omega) (weak_of (by repeat (first | refine all_cons (by first | rfl | exact eq_int rfl (by first | rfl | omega | (simp; done) | (simp; omega)) | exact eq_loc rfl (by first | rfl | omega | (simp; done) | (simp; omega)) | exact eq_bool rfl (by simp_all)) ?_ | exact all_nil)) (by repeat (first | refine all_cons (by first | rfl | exact eq_int rfl (by first | rfl | omega | (simp; done) | (simp; omega)) | exact eq_loc rfl (by first | rfl | omega | (simp; done) | (simp; omega)) | exact eq_bool rfl (by simp_all)) ?_ | exact all_nil)) rfl rfl)
  · have : i = x.files.length := by omega
    subst this
    exact ⟨close_int (by simp), trivial⟩
theorem driveSpec_c (x : DDrive) (hx : x.ok) (hu : usedN x.files ≤ 1000000000000) : Fun1 Try.prog 36 [.agg x.enc] (.one (.lit (.bool (driveOk x)))) := by
  have hx' := hx
  obtain ⟨⟨hl, hf⟩, hr⟩ := hx
  refine fun1_of_vc tb_ok mix (fn := Try.f36) Try.func36 rfl (by kernel_rfl) (by kernel_rfl) (by simp [Try.f36]) (by rfl) ?_
  (conv => whnf)
  (repeat' (split <;> rename_i hb <;> (try simp only [decide_eq_true_eq, decide_eq_false_iff_not, Bool.not_eq_true', Bool.not_eq_false', Bool.not_eq_true, Bool.not_eq_false, List.length_map] at hb) <;> conv => whnf))
  · exact ⟨close_bool (by simp [driveOk]; omega), trivial⟩
  · exact ⟨close_bool (by simp [driveOk]; omega), trivial⟩
  · exact ⟨close_bool (by simp [driveOk]; omega), trivial⟩
  refine ⟨LG (fun i : Nat => i ≤ x.files.length ∧ ∀ j, j < i → fOk x.files j = true) (fun i => x.files.length - i) (fun i => AS.of [(1, .one (.ptr 16 0)), (3, .one (.lit (.int .i64 (i : Nat))))] [(16, .var x.enc)]), lg_init 0 ⟨by omega, fun j h => by omega⟩ (weak_of (by repeat (first | refine all_cons (by first | rfl | exact eq_int rfl (by first | rfl | omega | (simp; done) | (simp; omega)) | exact eq_loc rfl (by first | rfl | omega | (simp; done) | (simp; omega)) | exact eq_bool rfl (by simp_all)) ?_ | exact all_nil)) (by repeat (first | refine all_cons (by first | rfl | exact eq_int rfl (by first | rfl | omega | (simp; done) | (simp; omega)) | exact eq_loc rfl (by first | rfl | omega | (simp; done) | (simp; omega)) | exact eq_bool rfl (by simp_all)) ?_ | exact all_nil)) rfl rfl), ?_⟩
  rintro σ k ⟨i, ⟨hi, hc⟩, rfl, rfl⟩
  refine ⟨_, Weak.refl _, ?_⟩
  (conv => whnf)
  (split <;> rename_i h <;> (try simp only [decide_eq_true_eq, decide_eq_false_iff_not, Bool.not_eq_true', Bool.not_eq_false', Bool.not_eq_true, Bool.not_eq_false, List.length_map] at h) <;> conv => whnf)
  · have hlt : i < x.files.length := by omega
    have hfi := hf _ (List.getElem_mem hlt)
    unfold DStored.ok inI at hfi
    refine ⟨i, rfl, _, at_map hlt, ?_⟩; (conv => whnf)
    refine ⟨_, _, nameSpec_c x.files[i].name hfi.1, (by repeat' (first | exact lends_nil | exact lend_dead | apply lends_cons | apply lend_agg | apply lend_one | exact all2_nil | apply all2_cons | exact la_lit rfl | exact la_int (by first | rfl | omega) | exact la_row rfl rfl | exact la_loc rfl rfl rfl (by first | rfl | simp [mkL_length]) (by first | rfl | simp) | exact la_nil rfl | apply la_fn rfl | exact lend_same rfl rfl | exact lend_bor rfl rfl)), ?_⟩; (conv => whnf)
    (split <;> rename_i h1 <;> (try simp only [decide_eq_true_eq, decide_eq_false_iff_not, Bool.not_eq_true', Bool.not_eq_false', Bool.not_eq_true, Bool.not_eq_false, List.length_map] at h1) <;> conv => whnf)
    · exact ⟨close_bool (driveOk_ff hlt (fOk_f hlt (by rw [h1]; simp))), trivial⟩
    (split <;> rename_i h2 <;> (try simp only [decide_eq_true_eq, decide_eq_false_iff_not, Bool.not_eq_true', Bool.not_eq_false', Bool.not_eq_true, Bool.not_eq_false, List.length_map] at h2) <;> conv => whnf)
    · refine ⟨((i - 1 : Nat) : Int), by rw [← wrap64_id] <;> omega, ?_⟩; (conv => whnf)
      refine ⟨i - 1, rfl, _, at_map (by omega), ?_⟩; (conv => whnf)
      (repeat' (split <;> rename_i hb <;> (try simp only [decide_eq_true_eq, decide_eq_false_iff_not, Bool.not_eq_true', Bool.not_eq_false', Bool.not_eq_true, Bool.not_eq_false, List.length_map] at hb) <;> conv => whnf))
      all_goals first
        | exact ⟨close_bool (driveOk_ff hlt (fOk_f hlt (by rintro ⟨q1, q2, q3, q4, q5⟩; first | omega | (rcases q2 with q2 | q2; omega; simp_all)))), trivial⟩
        | ((refine ⟨((i + 1 : Nat) : Int), by rw [← wrap64_id] <;> omega, ?_⟩; conv => whnf); exact lg_back (i + 1) ⟨by omega, fun j hj => by
            by_cases e : j = i
            · subst e; exact fOk_t hlt ⟨h1, by first | (left; omega) | (right; assumption), by omega, by omega, by omega⟩
            · exact hc j (by omega)⟩ (by (try dsimp only); omega) (weak_of (by repeat (first | refine all_cons (by first | rfl | exact eq_int rfl (by first | rfl | omega | (simp; done) | (simp; omega)) | exact eq_loc rfl (by first | rfl | omega | (simp; done) | (simp; omega)) | exact eq_bool rfl (by simp_all)) ?_ | exact all_nil)) (by repeat (first | refine all_cons (by first | rfl | exact eq_int rfl (by first | rfl | omega | (simp; done) | (simp; omega)) | exact eq_loc rfl (by first | rfl | omega | (simp; done) | (simp; omega)) | exact eq_bool rfl (by simp_all)) ?_ | exact all_nil)) rfl rfl))
    · (repeat' (split <;> rename_i hb <;> (try simp only [decide_eq_true_eq, decide_eq_false_iff_not, Bool.not_eq_true', Bool.not_eq_false', Bool.not_eq_true, Bool.not_eq_false, List.length_map] at hb) <;> conv => whnf))
      all_goals first
        | exact ⟨close_bool (driveOk_ff hlt (fOk_f hlt (by rintro ⟨q1, q2, q3, q4, q5⟩; omega))), trivial⟩
        | ((refine ⟨((i + 1 : Nat) : Int), by rw [← wrap64_id] <;> omega, ?_⟩; conv => whnf); exact lg_back (i + 1) ⟨by omega, fun j hj => by
            by_cases e : j = i
            · subst e; exact fOk_t hlt ⟨h1, by left; omega, by omega, by omega, by omega⟩
            · exact hc j (by omega)⟩ (by (try dsimp only); omega) (weak_of (by repeat (first | refine all_cons (by first | rfl | exact eq_int rfl (by first | rfl | omega | (simp; done) | (simp; omega)) | exact eq_loc rfl (by first | rfl | omega | (simp; done) | (simp; omega)) | exact eq_bool rfl (by simp_all)) ?_ | exact all_nil)) (by repeat (first | refine all_cons (by first | rfl | exact eq_int rfl (by first | rfl | omega | (simp; done) | (simp; omega)) | exact eq_loc rfl (by first | rfl | omega | (simp; done) | (simp; omega)) | exact eq_bool rfl (by simp_all)) ?_ | exact all_nil)) rfl rfl))
  · have : i = x.files.length := by omega
    subst this
    refine ⟨_, _, usedSpec_c x hx' hu, (by repeat' (first | exact lends_nil | exact lend_dead | apply lends_cons | apply lend_agg | apply lend_one | exact all2_nil | apply all2_cons | exact la_lit rfl | exact la_int (by first | rfl | omega) | exact la_row rfl rfl | exact la_loc rfl rfl rfl (by first | rfl | simp [mkL_length]) (by first | rfl | simp) | exact la_nil rfl | apply la_fn rfl | exact lend_same rfl rfl | exact lend_bor rfl rfl)), ?_⟩; (conv => whnf)
    exact ⟨close_bool (driveOk_end (by omega) (by omega) (by omega) hc), trivial⟩
end Go.Proofs.Ytlijeincckbdaaa
namespace Go.Proofs.Ytlijeincckbdaaa
open Go.RowKit
set_option linter.unusedSimpArgs false
set_option linter.unusedVariables false
/-- A function that only reckons on two values. -/
theorem fun1_of_calls2 {P : Program} {f : FuncId} {a b v : Value} (hc : Callable P f) (hv : v.oneCell' = true) (h : ∀ w, Calls P f #[a, b] w fun e w' => e = .returned v ∧ w = w') : Fun1 P f [.one (.lit a), .one (.lit b)] (.one (.lit v)) := by
  refine ⟨hc, by simp [T.nb, AV.nb], fun w I vs hI hargs => ?_⟩
  obtain ⟨vs⟩ := vs
  match vs, hargs with
  | [x, y], hargs =>
    have hx := hargs.1.1
    have hy := hargs.2.1.1
    cases hx; cases hy
    refine (h w).mono ?_
    rintro e w' ⟨rfl, rfl⟩
    exact ⟨v, fun _ => False, rfl, ⟨.plain rfl (.lit v) (fun _ h => h), hv⟩, fun _ h => h.elim, Bel.refl _ _⟩
set_option maxHeartbeats 1000000 in
set_option maxRecDepth 100000 in
theorem bytealgCompare_c (a b : ByteArray) (w : World) :
    Calls Try.prog 216 #[.string a, .string b] w fun e w' => e = .returned (.int .i64 (Lib.compareBytes a.data.toList b.data.toList)) ∧ w = w' := by
  go_enter Try.func216, Try.ntmps216
  go_wp2
  rw [run_callFunc_extern Try.func234 (by kernel_rfl) (by kernel_rfl) (by kernel_rfl) (e := Extern.BytealgCompare.compare) (by kernel_rfl), Lib.run_compareString]
  simp only [Result.andThen]
  rw [Oper.upon_value]
  go_wp2
  go_ret
  exact ⟨rfl, rfl⟩
theorem bytealgCmp_c (a b : ByteArray) : Fun1 Try.prog 216 [.one (.lit (.string a)), .one (.lit (.string b))] (.one (.lit (.int .i64 (cmpB a b)))) :=
  fun1_of_calls2 ⟨_, Try.func216, rfl, by kernel_rfl⟩ rfl (bytealgCompare_c a b)
set_option maxRecDepth 100000
theorem compare_c (a b : ByteArray) : Fun1 Try.prog 175 [.one (.lit (.string a)), .one (.lit (.string b))] (.one (.lit (.int .i64 (cmpB a b)))) := by
  refine fun1_of_vc tb_ok mix (fn := Try.f175) Try.func175 rfl (by kernel_rfl) (by kernel_rfl) (by simp [Try.f175]) (by rfl) ?_
  (conv => whnf)
  refine ⟨_, _, bytealgCmp_c a b, (by repeat' (first | exact lends_nil | exact lend_dead | apply lends_cons | apply lend_agg | apply lend_one | exact all2_nil | apply all2_cons | exact la_lit rfl | exact la_int (by first | rfl | omega) | exact la_row rfl rfl | exact la_loc rfl rfl rfl (by first | rfl | simp [mkL_length]) (by first | rfl | simp) | exact la_nil rfl | apply la_fn rfl | exact lend_same rfl rfl | exact lend_bor rfl rfl)), ?_⟩; (conv => whnf)
  exact (by repeat' (first | exact trivial | exact close_int rfl | exact close_str rfl | exact close_bool rfl | exact close_int (by omega) | exact close_row rfl rfl (by first | rfl | simp) (by first | rfl | simp) | exact close_nil (by first | rfl | simp) | exact rfl | apply And.intro | apply closeTs_cons rfl))
end Go.Proofs.Ytlijeincckbdaaa
namespace Go.Proofs.Ytlijeincckbdaaa
open Go.RowKit
set_option linter.unusedSimpArgs false
set_option linter.unusedVariables false
set_option maxRecDepth 100000
theorem driveImpl_c (x : DDrive) (hx : x.ok) (hu : usedN x.files ≤ 1000000000000) : Fun1 Try.prog 39 [.agg x.enc] (.one (.lit (.bool (driveOk x)))) := by
  have hx' := hx
  obtain ⟨⟨hl, hf⟩, hr⟩ := hx
  refine fun1_of_vc tb_ok mix (fn := Try.f39) Try.func39 rfl (by kernel_rfl) (by kernel_rfl) (by simp [Try.f39]) (by rfl) ?_
  (conv => whnf)
  (split <;> rename_i h0 <;> (try simp only [decide_eq_true_eq, decide_eq_false_iff_not, Bool.not_eq_true', Bool.not_eq_false', Bool.not_eq_true, Bool.not_eq_false, List.length_map] at h0) <;> conv => whnf)
  · exact ⟨close_bool (by simp [driveOk]; omega), trivial⟩
  refine ⟨_, _, within_c x.room 0 100000, (by repeat' (first | exact lends_nil | exact lend_dead | apply lends_cons | apply lend_agg | apply lend_one | exact all2_nil | apply all2_cons | exact la_lit rfl | exact la_int (by first | rfl | omega) | exact la_row rfl rfl | exact la_loc rfl rfl rfl (by first | rfl | simp [mkL_length]) (by first | rfl | simp) | exact la_nil rfl | apply la_fn rfl | exact lend_same rfl rfl | exact lend_bor rfl rfl)), ?_⟩; (conv => whnf)
  (split <;> rename_i h9 <;> (try simp only [decide_eq_true_eq, decide_eq_false_iff_not, Bool.not_eq_true', Bool.not_eq_false', Bool.not_eq_true, Bool.not_eq_false, List.length_map] at h9) <;> conv => whnf)
  · exact ⟨close_bool (by simp at h9; simp [driveOk]; omega), trivial⟩
  simp only [Bool.and_eq_true, decide_eq_true_eq] at h9
  refine ⟨LG (fun i : Nat => i ≤ x.files.length ∧ ∀ j, j < i → fOk x.files j = true) (fun i => x.files.length - i) (fun i => AS.of [(1, .one (.ptr 16 0)), (16, .one (.row false 3 (x.files.map DStored.enc))), (17, .one (.lit (.int .i64 (x.files.length : Nat)))), (18, .one (.lit (.int .i64 (i : Nat))))] [(16, .var x.enc)]), lg_init 0 ⟨by omega, fun j h => by omega⟩ (weak_of (by repeat (first | refine all_cons (by first | rfl | exact eq_int rfl (by first | rfl | omega | (simp; done) | (simp; omega)) | exact eq_loc rfl (by first | rfl | omega | (simp; done) | (simp; omega)) | exact eq_bool rfl (by simp_all)) ?_ | exact all_nil)) (by repeat (first | refine all_cons (by first | rfl | exact eq_int rfl (by first | rfl | omega | (simp; done) | (simp; omega)) | exact eq_loc rfl (by first | rfl | omega | (simp; done) | (simp; omega)) | exact eq_bool rfl (by simp_all)) ?_ | exact all_nil)) rfl rfl), ?_⟩
  rintro σ k ⟨i, ⟨hi, hc⟩, rfl, rfl⟩
  refine ⟨_, Weak.refl _, ?_⟩
  (conv => whnf)
  (split <;> rename_i h <;> (try simp only [decide_eq_true_eq, decide_eq_false_iff_not, Bool.not_eq_true', Bool.not_eq_false', Bool.not_eq_true, Bool.not_eq_false, List.length_map] at h) <;> conv => whnf)
  · have hlt : i < x.files.length := by omega
    have hfi := hf _ (List.getElem_mem hlt)
    unfold DStored.ok inI at hfi
    refine ⟨i, rfl, _, at_map hlt, ?_⟩; (conv => whnf)
    refine ⟨_, _, nameImpl_c x.files[i].name hfi.1, (by repeat' (first | exact lends_nil | exact lend_dead | apply lends_cons | apply lend_agg | apply lend_one | exact all2_nil | apply all2_cons | exact la_lit rfl | exact la_int (by first | rfl | omega) | exact la_row rfl rfl | exact la_loc rfl rfl rfl (by first | rfl | simp [mkL_length]) (by first | rfl | simp) | exact la_nil rfl | apply la_fn rfl | exact lend_same rfl rfl | exact lend_bor rfl rfl)), ?_⟩; (conv => whnf)
    (split <;> rename_i h1 <;> (try simp only [decide_eq_true_eq, decide_eq_false_iff_not, Bool.not_eq_true', Bool.not_eq_false', Bool.not_eq_true, Bool.not_eq_false, List.length_map] at h1) <;> conv => whnf)
    · exact ⟨close_bool (driveOk_ff hlt (fOk_f hlt (by rw [h1]; simp))), trivial⟩
    have hbad : ∀ {r : Bool}, r = false → ¬ (x.files[i].text.size ≤ 20000 ∧ 0 ≤ x.files[i].synced ∧ x.files[i].synced ≤ (x.files[i].text.size : Int)) → driveOk x = r := fun hr h => by rw [hr]; exact driveOk_ff hlt (fOk_f hlt fun q => h q.2.2)
    have hnext : (i = 0 ∨ sless (x.files[i - 1]'(by omega)).name x.files[i].name = true) → x.files[i].text.size ≤ 20000 ∧ 0 ≤ x.files[i].synced ∧ x.files[i].synced ≤ (x.files[i].text.size : Int) → ∀ j, j < i + 1 → fOk x.files j = true := fun h h' j hj => by
      by_cases e : j = i
      · subst e; exact fOk_t hlt ⟨h1, h, h'⟩
      · exact hc j (by omega)
    (split <;> rename_i h2 <;> (try simp only [decide_eq_true_eq, decide_eq_false_iff_not, Bool.not_eq_true', Bool.not_eq_false', Bool.not_eq_true, Bool.not_eq_false, List.length_map] at h2) <;> conv => whnf)
    · refine ⟨((i - 1 : Nat) : Int), by rw [← wrap64_id] <;> omega, ?_⟩; (conv => whnf)
      refine ⟨i - 1, rfl, _, at_map (by omega), ?_⟩; (conv => whnf)
      (split <;> rename_i h3 <;> (try simp only [decide_eq_true_eq, decide_eq_false_iff_not, Bool.not_eq_true', Bool.not_eq_false', Bool.not_eq_true, Bool.not_eq_false, List.length_map] at h3) <;> conv => whnf)
      · exact ⟨close_bool (driveOk_ff hlt (fOk_f hlt (by rintro ⟨q1, q2, q3⟩; rcases q2 with q2 | q2; omega; simp_all))), trivial⟩
      refine ⟨_, _, isLong_c x.files[i].text, (by repeat' (first | exact lends_nil | exact lend_dead | apply lends_cons | apply lend_agg | apply lend_one | exact all2_nil | apply all2_cons | exact la_lit rfl | exact la_int (by first | rfl | omega) | exact la_row rfl rfl | exact la_loc rfl rfl rfl (by first | rfl | simp [mkL_length]) (by first | rfl | simp) | exact la_nil rfl | apply la_fn rfl | exact lend_same rfl rfl | exact lend_bor rfl rfl)), ?_⟩; (conv => whnf)
      (split <;> rename_i h4 <;> (try simp only [decide_eq_true_eq, decide_eq_false_iff_not, Bool.not_eq_true', Bool.not_eq_false', Bool.not_eq_true, Bool.not_eq_false, List.length_map] at h4) <;> conv => whnf)
      · exact ⟨close_bool (hbad rfl (by omega)), trivial⟩
      refine ⟨_, _, long_c x.files[i].text, (by repeat' (first | exact lends_nil | exact lend_dead | apply lends_cons | apply lend_agg | apply lend_one | exact all2_nil | apply all2_cons | exact la_lit rfl | exact la_int (by first | rfl | omega) | exact la_row rfl rfl | exact la_loc rfl rfl rfl (by first | rfl | simp [mkL_length]) (by first | rfl | simp) | exact la_nil rfl | apply la_fn rfl | exact lend_same rfl rfl | exact lend_bor rfl rfl)), ?_⟩; (conv => whnf)
      refine ⟨_, _, within_c x.files[i].synced 0 x.files[i].text.size, (by repeat' (first | exact lends_nil | exact lend_dead | apply lends_cons | apply lend_agg | apply lend_one | exact all2_nil | apply all2_cons | exact la_lit rfl | exact la_int (by first | rfl | omega) | exact la_row rfl rfl | exact la_loc rfl rfl rfl (by first | rfl | simp [mkL_length]) (by first | rfl | simp) | exact la_nil rfl | apply la_fn rfl | exact lend_same rfl rfl | exact lend_bor rfl rfl)), ?_⟩; (conv => whnf)
      (split <;> rename_i h5 <;> (try simp only [decide_eq_true_eq, decide_eq_false_iff_not, Bool.not_eq_true', Bool.not_eq_false', Bool.not_eq_true, Bool.not_eq_false, List.length_map] at h5) <;> conv => whnf)
      · exact ⟨close_bool (hbad rfl (by simp at h5; omega)), trivial⟩
      simp only [Bool.and_eq_true, decide_eq_true_eq] at h5
      (refine ⟨((i + 1 : Nat) : Int), by rw [← wrap64_id] <;> omega, ?_⟩; conv => whnf)
      exact lg_back (i + 1) ⟨by omega, hnext (.inr h3) (by omega)⟩ (by (try dsimp only); omega) (weak_of (by repeat (first | refine all_cons (by first | rfl | exact eq_int rfl (by first | rfl | omega | (simp; done) | (simp; omega)) | exact eq_loc rfl (by first | rfl | omega | (simp; done) | (simp; omega)) | exact eq_bool rfl (by simp_all)) ?_ | exact all_nil)) (by repeat (first | refine all_cons (by first | rfl | exact eq_int rfl (by first | rfl | omega | (simp; done) | (simp; omega)) | exact eq_loc rfl (by first | rfl | omega | (simp; done) | (simp; omega)) | exact eq_bool rfl (by simp_all)) ?_ | exact all_nil)) rfl rfl)
    · refine ⟨_, _, isLong_c x.files[i].text, (by repeat' (first | exact lends_nil | exact lend_dead | apply lends_cons | apply lend_agg | apply lend_one | exact all2_nil | apply all2_cons | exact la_lit rfl | exact la_int (by first | rfl | omega) | exact la_row rfl rfl | exact la_loc rfl rfl rfl (by first | rfl | simp [mkL_length]) (by first | rfl | simp) | exact la_nil rfl | apply la_fn rfl | exact lend_same rfl rfl | exact lend_bor rfl rfl)), ?_⟩; (conv => whnf)
      (split <;> rename_i h4 <;> (try simp only [decide_eq_true_eq, decide_eq_false_iff_not, Bool.not_eq_true', Bool.not_eq_false', Bool.not_eq_true, Bool.not_eq_false, List.length_map] at h4) <;> conv => whnf)
      · exact ⟨close_bool (hbad rfl (by omega)), trivial⟩
      refine ⟨_, _, long_c x.files[i].text, (by repeat' (first | exact lends_nil | exact lend_dead | apply lends_cons | apply lend_agg | apply lend_one | exact all2_nil | apply all2_cons | exact la_lit rfl | exact la_int (by first | rfl | omega) | exact la_row rfl rfl | exact la_loc rfl rfl rfl (by first | rfl | simp [mkL_length]) (by first | rfl | simp) | exact la_nil rfl | apply la_fn rfl | exact lend_same rfl rfl | exact lend_bor rfl rfl)), ?_⟩; (conv => whnf)
      refine ⟨_, _, within_c x.files[i].synced 0 x.files[i].text.size, (by repeat' (first | exact lends_nil | exact lend_dead | apply lends_cons | apply lend_agg | apply lend_one | exact all2_nil | apply all2_cons | exact la_lit rfl | exact la_int (by first | rfl | omega) | exact la_row rfl rfl | exact la_loc rfl rfl rfl (by first | rfl | simp [mkL_length]) (by first | rfl | simp) | exact la_nil rfl | apply la_fn rfl | exact lend_same rfl rfl | exact lend_bor rfl rfl)), ?_⟩; (conv => whnf)
      (split <;> rename_i h5 <;> (try simp only [decide_eq_true_eq, decide_eq_false_iff_not, Bool.not_eq_true', Bool.not_eq_false', Bool.not_eq_true, Bool.not_eq_false, List.length_map] at h5) <;> conv => whnf)
      · exact ⟨close_bool (hbad rfl (by simp at h5; omega)), trivial⟩
      simp only [Bool.and_eq_true, decide_eq_true_eq] at h5
      (refine ⟨((i + 1 : Nat) : Int), by rw [← wrap64_id] <;> omega, ?_⟩; conv => whnf)
      exact lg_back (i + 1) ⟨by omega, hnext (.inl (by omega)) (by omega)⟩ (by (try dsimp only); omega) (weak_of (by repeat (first | refine all_cons (by first | rfl | exact eq_int rfl (by first | rfl | omega | (simp; done) | (simp; omega)) | exact eq_loc rfl (by first | rfl | omega | (simp; done) | (simp; omega)) | exact eq_bool rfl (by simp_all)) ?_ | exact all_nil)) (by repeat (first | refine all_cons (by first | rfl | exact eq_int rfl (by first | rfl | omega | (simp; done) | (simp; omega)) | exact eq_loc rfl (by first | rfl | omega | (simp; done) | (simp; omega)) | exact eq_bool rfl (by simp_all)) ?_ | exact all_nil)) rfl rfl)
  · have : i = x.files.length := by omega
    subst this
    refine ⟨_, _, usedImpl_c x hx' hu, (by repeat' (first | exact lends_nil | exact lend_dead | apply lends_cons | apply lend_agg | apply lend_one | exact all2_nil | apply all2_cons | exact la_lit rfl | exact la_int (by first | rfl | omega) | exact la_row rfl rfl | exact la_loc rfl rfl rfl (by first | rfl | simp [mkL_length]) (by first | rfl | simp) | exact la_nil rfl | apply la_fn rfl | exact lend_same rfl rfl | exact lend_bor rfl rfl)), ?_⟩; (conv => whnf)
    exact ⟨close_bool (driveOk_end (by omega) (by omega) (by omega) hc), trivial⟩
theorem find1_c (f : DStored) (name : ByteArray) : Fun1 Try.prog 174 [.agg f.enc, .one (.lit (.string name))] (.one (.lit (.int .i64 (cmpB f.name name)))) := by
  refine fun1_of_vc tb_ok mix (fn := Try.f174) Try.func174 rfl (by kernel_rfl) (by kernel_rfl) (by simp [Try.f174]) (by rfl) ?_
  (conv => whnf)
  refine ⟨_, _, compare_c f.name name, (by repeat' (first | exact lends_nil | exact lend_dead | apply lends_cons | apply lend_agg | apply lend_one | exact all2_nil | apply all2_cons | exact la_lit rfl | exact la_int (by first | rfl | omega) | exact la_row rfl rfl | exact la_loc rfl rfl rfl (by first | rfl | simp [mkL_length]) (by first | rfl | simp) | exact la_nil rfl | apply la_fn rfl | exact lend_same rfl rfl | exact lend_bor rfl rfl)), ?_⟩; (conv => whnf)
  exact (by repeat' (first | exact trivial | exact close_int rfl | exact close_str rfl | exact close_bool rfl | exact close_int (by omega) | exact close_row rfl rfl (by first | rfl | simp) (by first | rfl | simp) | exact close_nil (by first | rfl | simp) | exact rfl | apply And.intro | apply closeTs_cons rfl))
theorem bsearch_c (d : DDrive) (hd : driveOk d = true) (name : ByteArray) (hl : d.files.length ≤ 4294967296) : Fun1 Try.prog 173 [.one (.row true 3 (d.files.map DStored.enc)), .one (.lit (.string name)), .one (.fn 174 [])]
    (.tup [(false, [.lit (.int .i64 (findP d.files name : Nat))]), (false, [.lit (.bool (hasN d.files name))])]) := by
  refine fun1_of_vc tb_ok mix (fn := Try.f173) Try.func173 rfl (by kernel_rfl) (by kernel_rfl) (by simp [Try.f173]) (by rfl) ?_
  (conv => whnf)
  refine ⟨LG (fun p : Nat × Nat => p.1 ≤ p.2 ∧ p.2 ≤ d.files.length ∧ (∀ t (h : t < d.files.length), t < p.1 → cmpB d.files[t].name name < 0) ∧ ∀ t (h : t < d.files.length), p.2 ≤ t → 0 ≤ cmpB d.files[t].name name) (fun p => p.2 - p.1)
    (fun p => AS.of [(0, .one (.row true 3 (d.files.map DStored.enc))), (1, .one (.lit (.string name))), (2, .one (.fn 174 [])), (8, .one (.lit (.int .i64 (d.files.length : Nat)))), (9, .one (.lit (.int .i64 (p.1 : Nat)))), (10, .one (.lit (.int .i64 (p.2 : Nat))))] []),
    lg_init (0, d.files.length) ⟨by simp, by simp, fun t h h' => by simp at h', fun t h h' => by simp at h'; omega⟩ (weak_of (by repeat (first | refine all_cons (by first | rfl | exact eq_int rfl (by first | rfl | omega | (simp; done) | (simp; omega)) | exact eq_loc rfl (by first | rfl | omega | (simp; done) | (simp; omega)) | exact eq_bool rfl (by simp_all)) ?_ | exact all_nil)) (by repeat (first | refine all_cons (by first | rfl | exact eq_int rfl (by first | rfl | omega | (simp; done) | (simp; omega)) | exact eq_loc rfl (by first | rfl | omega | (simp; done) | (simp; omega)) | exact eq_bool rfl (by simp_all)) ?_ | exact all_nil)) rfl rfl), ?_⟩
  rintro σ k ⟨⟨i, j⟩, ⟨hij, hj, hlo, hhi⟩, rfl, rfl⟩
  simp only at hij hj hlo hhi
  refine ⟨_, Weak.refl _, ?_⟩
  (conv => whnf)
  (split <;> rename_i h <;> (try simp only [decide_eq_true_eq, decide_eq_false_iff_not, Bool.not_eq_true', Bool.not_eq_false', Bool.not_eq_true, Bool.not_eq_false, List.length_map] at h) <;> conv => whnf)
  · have hlt : i < j := by omega
    refine ⟨((i + j : Nat) : Int), by rw [← wrap64_id] <;> omega, ?_⟩; (conv => whnf)
    refine ⟨((i + j : Nat) : Int), wrap_id (by simp [IntKind.min, IntKind.signed]; omega) (by simp [IntKind.max, IntKind.signed, IntKind.bits]; omega), ?_⟩; (conv => whnf)
    refine ⟨by decide, (((i + j) / 2 : Nat) : Int), by simp [IntKind.bits, Int.fdiv_eq_ediv], ?_⟩; (conv => whnf)
    refine ⟨(((i + j) / 2 : Nat) : Int), by rw [← wrap64_id] <;> omega, ?_⟩; (conv => whnf)
    have hm : (i + j) / 2 < d.files.length := by omega
    refine ⟨(i + j) / 2, rfl, _, at_map hm, ?_⟩; (conv => whnf)
    refine ⟨_, _, find1_c d.files[(i + j) / 2] name, (by repeat' (first | exact lends_nil | exact lend_dead | apply lends_cons | apply lend_agg | apply lend_one | exact all2_nil | apply all2_cons | exact la_lit rfl | exact la_int (by first | rfl | omega) | exact la_row rfl rfl | exact la_loc rfl rfl rfl (by first | rfl | simp [mkL_length]) (by first | rfl | simp) | exact la_nil rfl | apply la_fn rfl | exact lend_same rfl rfl | exact lend_bor rfl rfl)), ?_⟩; (conv => whnf)
    have hmono : ∀ t (h : t < d.files.length), t < (i + j) / 2 → cmpB d.files[(i + j) / 2].name name ≤ 0 → cmpB d.files[t].name name < 0 := fun t h ht hle => by
      have h1 := sorted_of hd _ t ht hm
      rcases Int.lt_or_eq_of_le hle with h2 | h2
      · exact (cmpB_neg _ _).2 (bLt_trans h1 ((cmpB_neg _ _).1 h2))
      · rw [← (cmpB_zero _ _).1 h2]; exact (cmpB_neg _ _).2 h1
    have hmono2 : ∀ t (h : t < d.files.length), (i + j) / 2 < t → 0 ≤ cmpB d.files[(i + j) / 2].name name → 0 ≤ cmpB d.files[t].name name := fun t h ht hge => by
      have h1 := sorted_of hd t _ ht h
      by_cases hneg : cmpB d.files[t].name name < 0
      · have := (cmpB_neg _ _).2 (bLt_trans h1 ((cmpB_neg _ _).1 hneg)); omega
      · omega
    (split <;> rename_i h2 <;> (try simp only [decide_eq_true_eq, decide_eq_false_iff_not, Bool.not_eq_true', Bool.not_eq_false', Bool.not_eq_true, Bool.not_eq_false, List.length_map] at h2) <;> conv => whnf)
    · refine ⟨(((i + j) / 2 + 1 : Nat) : Int), by rw [← wrap64_id] <;> omega, ?_⟩; (conv => whnf)
      exact lg_back ((i + j) / 2 + 1, j) ⟨by simp; omega, hj, fun t h ht => by
        simp only at ht
        by_cases e : t = (i + j) / 2
        · subst e; exact h2
        · exact hmono t h (by omega) (by omega), hhi⟩ (by simp only; omega) (weak_of (by repeat (first | refine all_cons (by first | rfl | exact eq_int rfl (by first | rfl | omega | (simp; done) | (simp; omega)) | exact eq_loc rfl (by first | rfl | omega | (simp; done) | (simp; omega)) | exact eq_bool rfl (by simp_all)) ?_ | exact all_nil)) (by repeat (first | refine all_cons (by first | rfl | exact eq_int rfl (by first | rfl | omega | (simp; done) | (simp; omega)) | exact eq_loc rfl (by first | rfl | omega | (simp; done) | (simp; omega)) | exact eq_bool rfl (by simp_all)) ?_ | exact all_nil)) rfl rfl)
    · exact lg_back (i, (i + j) / 2) ⟨by simp; omega, by simp; omega, hlo, fun t h ht => by
        simp only at ht
        by_cases e : t = (i + j) / 2
        · subst e; omega
        · exact hmono2 t h (by omega) (by omega)⟩ (by simp only; omega) (weak_of (by repeat (first | refine all_cons (by first | rfl | exact eq_int rfl (by first | rfl | omega | (simp; done) | (simp; omega)) | exact eq_loc rfl (by first | rfl | omega | (simp; done) | (simp; omega)) | exact eq_bool rfl (by simp_all)) ?_ | exact all_nil)) (by repeat (first | refine all_cons (by first | rfl | exact eq_int rfl (by first | rfl | omega | (simp; done) | (simp; omega)) | exact eq_loc rfl (by first | rfl | omega | (simp; done) | (simp; omega)) | exact eq_bool rfl (by simp_all)) ?_ | exact all_nil)) rfl rfl)
  · have : i = j := by omega
    subst this
    have hP := findP_cut hj hlo hhi
    (split <;> rename_i h2 <;> (try simp only [decide_eq_true_eq, decide_eq_false_iff_not, Bool.not_eq_true', Bool.not_eq_false', Bool.not_eq_true, Bool.not_eq_false, List.length_map] at h2) <;> conv => whnf)
    · have hlt : i < d.files.length := by omega
      refine ⟨i, rfl, _, at_map hlt, ?_⟩; (conv => whnf)
      refine ⟨_, _, find1_c d.files[i] name, (by repeat' (first | exact lends_nil | exact lend_dead | apply lends_cons | apply lend_agg | apply lend_one | exact all2_nil | apply all2_cons | exact la_lit rfl | exact la_int (by first | rfl | omega) | exact la_row rfl rfl | exact la_loc rfl rfl rfl (by first | rfl | simp [mkL_length]) (by first | rfl | simp) | exact la_nil rfl | apply la_fn rfl | exact lend_same rfl rfl | exact lend_bor rfl rfl)), ?_⟩; (conv => whnf)
      rw [hP, hasN_cut hd hlt hlo hhi]
      exact (by repeat' (first | exact trivial | exact close_int rfl | exact close_str rfl | exact close_bool rfl | exact close_int (by omega) | exact close_row rfl rfl (by first | rfl | simp) (by first | rfl | simp) | exact close_nil (by first | rfl | simp) | exact rfl | apply And.intro | apply closeTs_cons rfl))
    · have e : i = d.files.length := by omega
      rw [hP, hasN_none (fun t h => hlo t h (by omega))]
      exact (by repeat' (first | exact trivial | exact close_int rfl | exact close_str rfl | exact close_bool rfl | exact close_int (by omega) | exact close_row rfl rfl (by first | rfl | simp) (by first | rfl | simp) | exact close_nil (by first | rfl | simp) | exact rfl | apply And.intro | apply closeTs_cons rfl))
theorem find_c (d : DDrive) (hd : driveOk d = true) (name : ByteArray) (hl : d.files.length ≤ 4294967296) : Fun1 Try.prog 92 [.agg d.enc, .one (.lit (.string name))]
    (.tup [(false, [.lit (.int .i64 (findP d.files name : Nat))]), (false, [.lit (.bool (hasN d.files name))])]) := by
  refine fun1_of_vc tb_ok mix (fn := Try.f92) Try.func92 rfl (by kernel_rfl) (by kernel_rfl) (by simp [Try.f92]) (by rfl) ?_
  (conv => whnf)
  refine ⟨_, _, bsearch_c d hd name hl, (by repeat' (first | exact lends_nil | exact lend_dead | apply lends_cons | apply lend_agg | apply lend_one | exact all2_nil | apply all2_cons | exact la_lit rfl | exact la_int (by first | rfl | omega) | exact la_row rfl rfl | exact la_loc rfl rfl rfl (by first | rfl | simp [mkL_length]) (by first | rfl | simp) | exact la_nil rfl | apply la_fn rfl | exact lend_same rfl rfl | exact lend_bor rfl rfl)), ?_⟩; (conv => whnf)
  exact (by repeat' (first | exact trivial | exact close_int rfl | exact close_str rfl | exact close_bool rfl | exact close_int (by omega) | exact close_row rfl rfl (by first | rfl | simp) (by first | rfl | simp) | exact close_nil (by first | rfl | simp) | exact rfl | apply And.intro | apply closeTs_cons rfl))
theorem l08Find_c (d : DDrive) (name : ByteArray) (hl : d.files.length ≤ 4294967296) : Fun1 Try.prog 86 [.agg d.enc, .one (.lit (.string name))] (.one (.lit (.int .i64 (findI d.files name)))) := by
  refine fun1_of_vc tb_ok mix (fn := Try.f86) Try.func86 rfl (by kernel_rfl) (by kernel_rfl) (by simp [Try.f86]) (by rfl) ?_
  (conv => whnf)
  refine ⟨LG (fun i : Nat => i ≤ d.files.length ∧ ∀ t (h : t < d.files.length), t < i → d.files[t].name ≠ name) (fun i => d.files.length - i) (fun i => AS.of [(1, .one (.lit (.string name))), (2, .one (.ptr 32 0)), (5, .one (.lit (.int .i64 (i : Nat))))] [(32, .var d.enc)]), lg_init 0 ⟨by omega, fun t h h' => by omega⟩ (weak_of (by repeat (first | refine all_cons (by first | rfl | exact eq_int rfl (by first | rfl | omega | (simp; done) | (simp; omega)) | exact eq_loc rfl (by first | rfl | omega | (simp; done) | (simp; omega)) | exact eq_bool rfl (by simp_all)) ?_ | exact all_nil)) (by repeat (first | refine all_cons (by first | rfl | exact eq_int rfl (by first | rfl | omega | (simp; done) | (simp; omega)) | exact eq_loc rfl (by first | rfl | omega | (simp; done) | (simp; omega)) | exact eq_bool rfl (by simp_all)) ?_ | exact all_nil)) rfl rfl), ?_⟩
  rintro σ k ⟨i, ⟨hi, hc⟩, rfl, rfl⟩
  refine ⟨_, Weak.refl _, ?_⟩
  (conv => whnf)
  (split <;> rename_i h <;> (try simp only [decide_eq_true_eq, decide_eq_false_iff_not, Bool.not_eq_true', Bool.not_eq_false', Bool.not_eq_true, Bool.not_eq_false, List.length_map] at h) <;> conv => whnf)
  · have hlt : i < d.files.length := by omega
    refine ⟨i, rfl, _, at_map hlt, ?_⟩; (conv => whnf)
    (split <;> rename_i h2 <;> (try simp only [decide_eq_true_eq, decide_eq_false_iff_not, Bool.not_eq_true', Bool.not_eq_false', Bool.not_eq_true, Bool.not_eq_false, List.length_map] at h2) <;> conv => whnf)
    · exact ⟨close_int (findI_at hlt hc h2), trivial⟩
    · (refine ⟨((i + 1 : Nat) : Int), by rw [← wrap64_id] <;> omega, ?_⟩; conv => whnf)
      exact lg_back (i + 1) ⟨by omega, fun t h ht => by
        by_cases e : t = i
        · subst e; exact h2
        · exact hc t h (by omega)⟩ (by (try dsimp only); omega) (weak_of (by repeat (first | refine all_cons (by first | rfl | exact eq_int rfl (by first | rfl | omega | (simp; done) | (simp; omega)) | exact eq_loc rfl (by first | rfl | omega | (simp; done) | (simp; omega)) | exact eq_bool rfl (by simp_all)) ?_ | exact all_nil)) (by repeat (first | refine all_cons (by first | rfl | exact eq_int rfl (by first | rfl | omega | (simp; done) | (simp; omega)) | exact eq_loc rfl (by first | rfl | omega | (simp; done) | (simp; omega)) | exact eq_bool rfl (by simp_all)) ?_ | exact all_nil)) rfl rfl)
  · exact ⟨close_int (findI_none (fun t h => hc t h (by omega))).1, trivial⟩
end Go.Proofs.Ytlijeincckbdaaa
namespace Go.Proofs.Ytlijeincckbdaaa
open Go.RowKit
set_option linter.unusedSimpArgs false
set_option linter.unusedVariables false
set_option maxRecDepth 100000
set_option maxHeartbeats 4000000
theorem laid_map {α : Type} {f : α → List AV} {s : Nat} (h : ∀ x, (f x).map AV.bor = f x) (l : List α) : l.map f = laid true s (l.map f) := by
  simp only [laid, if_true, List.map_map]
  exact List.map_congr_left fun x _ => (h x).symm
theorem bor_map {α : Type} {f : α → List AV} (h : ∀ x, (f x).map AV.bor = f x) (l : List α) : l.map f = (l.map f).map (fun e => e.map AV.bor) := by
  simp only [List.map_map]
  exact List.map_congr_left fun x _ => (h x).symm
theorem byte_back (op : BinOp) (a b : Int) : ((UInt8.ofNat (bits op .u8 a b).toNat).toNat : Int) = bits op .u8 a b := by
  have h1 := bits_lo_u8 op a b
  have h2 := bits_hi_u8 op a b
  rw [UInt8.toNat_ofNat']
  omega
theorem set_byte {l : List UInt8} {i : Nat} {v : Int} (hv : ((UInt8.ofNat v.toNat).toNat : Int) = v) : (l.set i (UInt8.ofNat v.toNat)).map byteE = (l.map byteE).set i [.lit (.int .u8 v)] := by
  rw [List.map_set]; simp only [byteE, hv]
theorem l08Copy_c (x : DDrive) (hx : x.ok) : Fun1 Try.prog 85 [.agg x.enc] (.agg x.enc) := by
  obtain ⟨⟨hl, hf⟩, hr⟩ := hx
  refine fun1_of_vc tb_ok mix (fn := Try.f85) Try.func85 rfl (by kernel_rfl) (by kernel_rfl) (by simp [Try.f85]) (by exact DDrive.enc_nb _) ?_
  (conv => whnf)
  refine ⟨true, _, ⟨rfl, rfl, rfl⟩, ?_⟩; (conv => whnf)
  refine ⟨_, laid_map (f := DStored.enc) (fun _ => rfl) x.files, rfl, rfl, rfl, by simp [maxLen, chunk]; omega, by simp [chunk]; omega, ?_⟩; (conv => whnf)
  exact ⟨close_row rfl rfl (by simp [chunk]) (by simp [chunk]), close_int rfl, trivial⟩
theorem cloneStored_c (l : List DStored) (hl : l.length ≤ 4294967296) : Fun1 Try.prog 172 [.one (.row true 3 (l.map DStored.enc))] (.one (.row true 3 (l.map DStored.enc))) := by
  refine fun1_nil (fun h c => ?_) ?_
  · refine fun1_of_vc tb_ok mix (fn := Try.f172) Try.func172 rfl (by kernel_rfl) (by kernel_rfl) (by simp [Try.f172]) (by show AV.nb (4 + 1) _ = true; exact nb_map (n := 4) (fun y => DStored.enc_nbn 4 y) _) ?_
    (conv => whnf)
    exact ⟨close_nil h, trivial⟩
  · refine fun1_of_vc tb_ok mix (fn := Try.f172) Try.func172 rfl (by kernel_rfl) (by kernel_rfl) (by simp [Try.f172]) (by show AV.nb (4 + 1) _ = true; exact nb_map (n := 4) (fun y => DStored.enc_nbn 4 y) _) ?_
    (conv => whnf)
    refine ⟨true, _, ⟨rfl, rfl, rfl⟩, ?_⟩; (conv => whnf)
    refine ⟨_, laid_map (f := DStored.enc) (fun _ => rfl) l, rfl, rfl, rfl, by simp [maxLen, chunk]; omega, by simp [chunk]; omega, ?_⟩; (conv => whnf)
    exact ⟨close_row rfl rfl (by simp [chunk]) (by simp [chunk]), trivial⟩
theorem copied_c (x : DDrive) (hx : x.ok) : Fun1 Try.prog 90 [.agg x.enc] (.agg x.enc) := by
  obtain ⟨⟨hl, hf⟩, hr⟩ := hx
  refine fun1_of_vc tb_ok mix (fn := Try.f90) Try.func90 rfl (by kernel_rfl) (by kernel_rfl) (by simp [Try.f90]) (by exact DDrive.enc_nb _) ?_
  (conv => whnf)
  refine ⟨_, _, cloneStored_c x.files hl, (by repeat' (first | exact lends_nil | exact lend_dead | apply lends_cons | apply lend_agg | apply lend_one | exact all2_nil | apply all2_cons | exact la_lit rfl | exact la_int (by first | rfl | omega) | exact la_row rfl rfl | exact la_loc rfl rfl rfl (by first | rfl | simp [mkL_length]) (by first | rfl | simp) | exact la_nil rfl | apply la_fn rfl | exact lend_same rfl rfl | exact lend_bor rfl rfl)), ?_⟩; (conv => whnf)
  exact (by repeat' (first | exact trivial | exact close_int rfl | exact close_str rfl | exact close_bool rfl | exact close_int (by omega) | exact close_row rfl rfl (by first | rfl | simp) (by first | rfl | simp) | exact close_nil (by first | rfl | simp) | exact rfl | apply And.intro | apply closeTs_cons rfl))
def xorB (t : ByteArray) (i : Nat) (u : Int) : ByteArray := ⟨(t.data.toList.set i (UInt8.ofNat (bits BinOp.xor .u8 ((t.data.toList.getD i 0).toNat : Int) u).toNat)).toArray⟩
/-- A byte of a file turned. -/
def rotF (x : DDrive) (name : ByteArray) (at_ turn : Int) : DDrive :=
  if 20000 < (name.size : Int) then ⟨[], 0⟩ else
  if driveOk x = true ∧ 0 ≤ turn ∧ turn ≤ 255 ∧ hasN x.files name = true then
    (match x.files[findP x.files name]? with
    | some f => if 0 ≤ at_ ∧ at_ < f.text.size then ⟨x.files.set (findP x.files name) ⟨f.name, xorB f.text at_.toNat turn, f.synced⟩, x.room⟩ else x
    | none => x)
  else x
theorem at_map0 {α β : Type} {f : α → β} {l : List α} {i : Nat} (h : i < l.length) : (l.map f)[0 + i]? = some (f l[i]) := by rw [Nat.zero_add]; exact at_map h
theorem byte_at {s : ByteArray} {i : Nat} (h : i < s.size) : (s.data.toList.map byteE)[0 + i]? = some (byteE (s.data.toList.getD i 0)) := by
  have h' : i < s.data.toList.length := by simpa using h
  rw [Nat.zero_add, List.getElem?_map, List.getD_eq_getElem?_getD, List.getElem?_eq_getElem h']; rfl
theorem set_byte0 {l : List UInt8} {i : Nat} {v : Int} (hv : ((UInt8.ofNat v.toNat).toNat : Int) = v) : (l.set i (UInt8.ofNat v.toNat)).map byteE = (l.map byteE).set (0 + i) [.lit (.int .u8 v)] := by rw [Nat.zero_add]; exact set_byte hv
theorem set_enc0 {l : List DStored} {i : Nat} {y : DStored} {e : List AV} (h : y.enc = e) : (l.set i y).map DStored.enc = (l.map DStored.enc).set (0 + i) e := by rw [Nat.zero_add, List.map_set, h]
theorem set_enc {l : List DStored} {i : Nat} {y : DStored} {e : List AV} (h : y.enc = e) : (l.set i y).map DStored.enc = (l.map DStored.enc).set i e := by rw [List.map_set, h]
theorem rotImpl_c (x : DDrive) (hx : x.ok) (hu : usedN x.files ≤ 1000000000000) (name : ByteArray) (at_ turn : Int) (ha : inI at_) (res : DDrive) (hres : rotF x name at_ turn = res) :
    Fun1 Try.prog 18 [.agg x.enc, .one (.lit (.string name)), .one (.lit (.int .i64 at_)), .one (.lit (.int .i64 turn))] (.agg res.enc) := by
  have hx' := hx
  obtain ⟨⟨hl, hf⟩, hr⟩ := hx
  refine fun1_of_vc tb_ok mix (fn := Try.f18) Try.func18 rfl (by kernel_rfl) (by kernel_rfl) (by simp [Try.f18]) (by exact DDrive.enc_nb _) ?_
  (conv => whnf)
  refine ⟨_, _, isLong_c name, (by repeat' (first | exact lends_nil | exact lend_dead | apply lends_cons | apply lend_agg | apply lend_one | exact all2_nil | apply all2_cons | exact la_lit rfl | exact la_int (by first | rfl | omega) | exact la_row rfl rfl | exact la_loc rfl rfl rfl (by first | rfl | simp [mkL_length]) (by first | rfl | simp) | exact la_nil rfl | apply la_fn rfl | exact lend_same rfl rfl | exact lend_bor rfl rfl)), ?_⟩; (conv => whnf)
  (split <;> rename_i h1 <;> (try simp only [decide_eq_true_eq, decide_eq_false_iff_not, Bool.not_eq_true', Bool.not_eq_false', Bool.not_eq_true, Bool.not_eq_false, List.length_map] at h1) <;> conv => whnf)
  · have : res = ⟨[], 0⟩ := by rw [← hres]; simp [rotF, h1]
    subst this
    exact (by repeat' (first | exact trivial | exact close_int rfl | exact close_str rfl | exact close_bool rfl | exact close_int (by omega) | exact close_row rfl rfl (by first | rfl | simp) (by first | rfl | simp) | exact close_nil (by first | rfl | simp) | exact rfl | apply And.intro | apply closeTs_cons rfl))
  refine ⟨_, _, copied_c x hx', (by repeat' (first | exact lends_nil | exact lend_dead | apply lends_cons | apply lend_agg | apply lend_one | exact all2_nil | apply all2_cons | exact la_lit rfl | exact la_int (by first | rfl | omega) | exact la_row rfl rfl | exact la_loc rfl rfl rfl (by first | rfl | simp [mkL_length]) (by first | rfl | simp) | exact la_nil rfl | apply la_fn rfl | exact lend_same rfl rfl | exact lend_bor rfl rfl)), ?_⟩; (conv => whnf)
  refine ⟨_, _, driveImpl_c x hx' hu, (by repeat' (first | exact lends_nil | exact lend_dead | apply lends_cons | apply lend_agg | apply lend_one | exact all2_nil | apply all2_cons | exact la_lit rfl | exact la_int (by first | rfl | omega) | exact la_row rfl rfl | exact la_loc rfl rfl rfl (by first | rfl | simp [mkL_length]) (by first | rfl | simp) | exact la_nil rfl | apply la_fn rfl | exact lend_same rfl rfl | exact lend_bor rfl rfl)), ?_⟩; (conv => whnf)
  (split <;> rename_i h2 <;> (try simp only [decide_eq_true_eq, decide_eq_false_iff_not, Bool.not_eq_true', Bool.not_eq_false', Bool.not_eq_true, Bool.not_eq_false, List.length_map] at h2) <;> conv => whnf)
  · have : res = x := by rw [← hres]; simp [rotF, h1, h2]
    subst this
    exact (by repeat' (first | exact trivial | exact close_int rfl | exact close_str rfl | exact close_bool rfl | exact close_int (by omega) | exact close_row rfl rfl (by first | rfl | simp) (by first | rfl | simp) | exact close_nil (by first | rfl | simp) | exact rfl | apply And.intro | apply closeTs_cons rfl))
  refine ⟨_, _, isByte_c turn, (by repeat' (first | exact lends_nil | exact lend_dead | apply lends_cons | apply lend_agg | apply lend_one | exact all2_nil | apply all2_cons | exact la_lit rfl | exact la_int (by first | rfl | omega) | exact la_row rfl rfl | exact la_loc rfl rfl rfl (by first | rfl | simp [mkL_length]) (by first | rfl | simp) | exact la_nil rfl | apply la_fn rfl | exact lend_same rfl rfl | exact lend_bor rfl rfl)), ?_⟩; (conv => whnf)
  (split <;> rename_i h3 <;> (try simp only [decide_eq_true_eq, decide_eq_false_iff_not, Bool.not_eq_true', Bool.not_eq_false', Bool.not_eq_true, Bool.not_eq_false, List.length_map] at h3) <;> conv => whnf)
  · have : res = x := by
      rw [← hres, rotF, if_neg h1, if_neg]
      rintro ⟨_, q1, q2, _⟩
      simp at h3; omega
    subst this
    exact (by repeat' (first | exact trivial | exact close_int rfl | exact close_str rfl | exact close_bool rfl | exact close_int (by omega) | exact close_row rfl rfl (by first | rfl | simp) (by first | rfl | simp) | exact close_nil (by first | rfl | simp) | exact rfl | apply And.intro | apply closeTs_cons rfl))
  simp only [Bool.and_eq_true, decide_eq_true_eq] at h3
  refine ⟨_, _, find_c x h2 name hl, (by repeat' (first | exact lends_nil | exact lend_dead | apply lends_cons | apply lend_agg | apply lend_one | exact all2_nil | apply all2_cons | exact la_lit rfl | exact la_int (by first | rfl | omega) | exact la_row rfl rfl | exact la_loc rfl rfl rfl (by first | rfl | simp [mkL_length]) (by first | rfl | simp) | exact la_nil rfl | apply la_fn rfl | exact lend_same rfl rfl | exact lend_bor rfl rfl)), ?_⟩; (conv => whnf)
  (split <;> rename_i h4 <;> (try simp only [decide_eq_true_eq, decide_eq_false_iff_not, Bool.not_eq_true', Bool.not_eq_false', Bool.not_eq_true, Bool.not_eq_false, List.length_map] at h4) <;> conv => whnf)
  · obtain ⟨hp, _, hn⟩ := findI_eq h2 h4
    have hfi := hf _ (List.getElem_mem hp)
    unfold DStored.ok inI at hfi
    unfold inI at ha
    have hres' : (if 0 ≤ at_ ∧ at_ < (x.files[findP x.files name].text.size : Int) then (⟨x.files.set (findP x.files name) ⟨x.files[findP x.files name].name, xorB x.files[findP x.files name].text at_.toNat turn, x.files[findP x.files name].synced⟩, x.room⟩ : DDrive) else x) = res := by
      rw [← hres, rotF, if_neg h1, if_pos (show driveOk x = true ∧ 0 ≤ turn ∧ turn ≤ 255 ∧ hasN x.files name = true from ⟨h2, h3.1, h3.2, h4⟩), List.getElem?_eq_getElem hp]
    generalize hq : findP x.files name = p at *
    refine ⟨p, rfl, _, at_map hp, ?_⟩; (conv => whnf)
    refine ⟨_, _, long_c x.files[p].text, (by repeat' (first | exact lends_nil | exact lend_dead | apply lends_cons | apply lend_agg | apply lend_one | exact all2_nil | apply all2_cons | exact la_lit rfl | exact la_int (by first | rfl | omega) | exact la_row rfl rfl | exact la_loc rfl rfl rfl (by first | rfl | simp [mkL_length]) (by first | rfl | simp) | exact la_nil rfl | apply la_fn rfl | exact lend_same rfl rfl | exact lend_bor rfl rfl)), ?_⟩; (conv => whnf)
    refine ⟨(x.files[p].text.size : Int) - 1, by rw [← wrap64_id] <;> omega, ?_⟩; (conv => whnf)
    refine ⟨_, _, within_c at_ 0 ((x.files[p].text.size : Int) - 1), (by repeat' (first | exact lends_nil | exact lend_dead | apply lends_cons | apply lend_agg | apply lend_one | exact all2_nil | apply all2_cons | exact la_lit rfl | exact la_int (by first | rfl | omega) | exact la_row rfl rfl | exact la_loc rfl rfl rfl (by first | rfl | simp [mkL_length]) (by first | rfl | simp) | exact la_nil rfl | apply la_fn rfl | exact lend_same rfl rfl | exact lend_bor rfl rfl)), ?_⟩; (conv => whnf)
    (split <;> rename_i h5 <;> (try simp only [decide_eq_true_eq, decide_eq_false_iff_not, Bool.not_eq_true', Bool.not_eq_false', Bool.not_eq_true, Bool.not_eq_false, List.length_map] at h5) <;> conv => whnf)
    · simp only [Bool.and_eq_true, decide_eq_true_eq] at h5
      rw [if_pos (by omega)] at hres'
      obtain ⟨i, rfl⟩ : ∃ i : Nat, at_ = (i : Int) := ⟨at_.toNat, by omega⟩
      have hit : i < x.files[p].text.size := by omega
      refine ⟨p, rfl, _, at_map hp, ?_⟩; (conv => whnf)
      refine ⟨by simp [maxLen]; omega, ?_⟩; (conv => whnf)
      refine ⟨i, rfl, hit, ?_⟩; (conv => whnf)
      refine ⟨_, byte_at hit, ?_⟩; (conv => whnf)
      refine ⟨turn, wrap_id (by simp [IntKind.min, IntKind.signed]; omega) (by simp [IntKind.max, IntKind.signed, IntKind.bits]; omega), ?_⟩; (conv => whnf)
      refine ⟨i, rfl, hit, ?_⟩; (conv => whnf)
      refine ⟨_, byte_at hit, ?_⟩; (conv => whnf)
      refine ⟨(x.files[p].text.data.toList.set i (UInt8.ofNat (bits .xor .u8 ((x.files[p].text.data.toList.getD i 0).toNat : Int) turn).toNat)).map byteE, set_byte0 (byte_back _ _ _), ?_⟩; (conv => whnf)
      refine ⟨true, _, x.files[p].text.data.toList.set i (UInt8.ofNat (bits .xor .u8 ((x.files[p].text.data.toList.getD i 0).toNat : Int) turn).toNat), ⟨rfl, by simp, rfl, rfl⟩, List.take_of_length_le (by simp), ?_⟩; (conv => whnf)
      refine ⟨p, rfl, by simpa using hp, ?_⟩; (conv => whnf)
      refine ⟨_, at_map0 hp, ?_⟩; (conv => whnf)
      refine ⟨(x.files.set p ⟨x.files[p].name, xorB x.files[p].text (i : Int).toNat turn, x.files[p].synced⟩).map DStored.enc, set_enc0 rfl, ?_⟩; (conv => whnf)
      subst hres'
      exact ⟨close_row rfl rfl (by simp) rfl, close_int rfl, trivial⟩
    · simp only [Bool.and_eq_false_iff, decide_eq_false_iff_not] at h5
      rw [if_neg (by omega)] at hres'
      subst hres'
      exact (by repeat' (first | exact trivial | exact close_int rfl | exact close_str rfl | exact close_bool rfl | exact close_int (by omega) | exact close_row rfl rfl (by first | rfl | simp) (by first | rfl | simp) | exact close_nil (by first | rfl | simp) | exact rfl | apply And.intro | apply closeTs_cons rfl))
  · have : res = x := by rw [← hres]; simp [rotF, h1, h4]
    subst this
    exact (by repeat' (first | exact trivial | exact close_int rfl | exact close_str rfl | exact close_bool rfl | exact close_int (by omega) | exact close_row rfl rfl (by first | rfl | simp) (by first | rfl | simp) | exact close_nil (by first | rfl | simp) | exact rfl | apply And.intro | apply closeTs_cons rfl))
theorem rotSpec_c (x : DDrive) (hx : x.ok) (hu : usedN x.files ≤ 1000000000000) (name : ByteArray) (at_ turn : Int) (ha : inI at_) (res : DDrive) (hres : rotF x name at_ turn = res) :
    Fun1 Try.prog 16 [.agg x.enc, .one (.lit (.string name)), .one (.lit (.int .i64 at_)), .one (.lit (.int .i64 turn))] (.agg res.enc) := by
  have hx' := hx
  obtain ⟨⟨hl, hf⟩, hr⟩ := hx
  refine fun1_of_vc tb_ok mix (fn := Try.f16) Try.func16 rfl (by kernel_rfl) (by kernel_rfl) (by simp [Try.f16]) (by exact DDrive.enc_nb _) ?_
  (conv => whnf)
  (split <;> rename_i h1 <;> (try simp only [decide_eq_true_eq, decide_eq_false_iff_not, Bool.not_eq_true', Bool.not_eq_false', Bool.not_eq_true, Bool.not_eq_false, List.length_map] at h1) <;> conv => whnf)
  · have : res = ⟨[], 0⟩ := by rw [← hres]; simp [rotF, h1]
    subst this
    exact (by repeat' (first | exact trivial | exact close_int rfl | exact close_str rfl | exact close_bool rfl | exact close_int (by omega) | exact close_row rfl rfl (by first | rfl | simp) (by first | rfl | simp) | exact close_nil (by first | rfl | simp) | exact rfl | apply And.intro | apply closeTs_cons rfl))
  refine ⟨_, _, l08Copy_c x hx', (by repeat' (first | exact lends_nil | exact lend_dead | apply lends_cons | apply lend_agg | apply lend_one | exact all2_nil | apply all2_cons | exact la_lit rfl | exact la_int (by first | rfl | omega) | exact la_row rfl rfl | exact la_loc rfl rfl rfl (by first | rfl | simp [mkL_length]) (by first | rfl | simp) | exact la_nil rfl | apply la_fn rfl | exact lend_same rfl rfl | exact lend_bor rfl rfl)), ?_⟩; (conv => whnf)
  refine ⟨_, _, l08Find_c x name hl, (by repeat' (first | exact lends_nil | exact lend_dead | apply lends_cons | apply lend_agg | apply lend_one | exact all2_nil | apply all2_cons | exact la_lit rfl | exact la_int (by first | rfl | omega) | exact la_row rfl rfl | exact la_loc rfl rfl rfl (by first | rfl | simp [mkL_length]) (by first | rfl | simp) | exact la_nil rfl | apply la_fn rfl | exact lend_same rfl rfl | exact lend_bor rfl rfl)), ?_⟩; (conv => whnf)
  refine ⟨_, _, driveSpec_c x hx' hu, (by repeat' (first | exact lends_nil | exact lend_dead | apply lends_cons | apply lend_agg | apply lend_one | exact all2_nil | apply all2_cons | exact la_lit rfl | exact la_int (by first | rfl | omega) | exact la_row rfl rfl | exact la_loc rfl rfl rfl (by first | rfl | simp [mkL_length]) (by first | rfl | simp) | exact la_nil rfl | apply la_fn rfl | exact lend_same rfl rfl | exact lend_bor rfl rfl)), ?_⟩; (conv => whnf)
  (split <;> rename_i h2 <;> (try simp only [decide_eq_true_eq, decide_eq_false_iff_not, Bool.not_eq_true', Bool.not_eq_false', Bool.not_eq_true, Bool.not_eq_false, List.length_map] at h2) <;> conv => whnf)
  · have : res = x := by rw [← hres]; simp [rotF, h1, h2]
    subst this
    exact (by repeat' (first | exact trivial | exact close_int rfl | exact close_str rfl | exact close_bool rfl | exact close_int (by omega) | exact close_row rfl rfl (by first | rfl | simp) (by first | rfl | simp) | exact close_nil (by first | rfl | simp) | exact rfl | apply And.intro | apply closeTs_cons rfl))
  by_cases h4 : hasN x.files name = true
  case neg =>
    have : res = x := by rw [← hres]; simp [rotF, h1, h4]
    subst this
    have hn : findI res.files name = -1 := by simp [findI, h4]
    (split <;> rename_i h5 <;> (try simp only [decide_eq_true_eq, decide_eq_false_iff_not, Bool.not_eq_true', Bool.not_eq_false', Bool.not_eq_true, Bool.not_eq_false, List.length_map] at h5) <;> conv => whnf)
    · exact (by repeat' (first | exact trivial | exact close_int rfl | exact close_str rfl | exact close_bool rfl | exact close_int (by omega) | exact close_row rfl rfl (by first | rfl | simp) (by first | rfl | simp) | exact close_nil (by first | rfl | simp) | exact rfl | apply And.intro | apply closeTs_cons rfl))
    · omega
  obtain ⟨hp, he, hn⟩ := findI_eq h2 h4
  have hfi := hf _ (List.getElem_mem hp)
  unfold DStored.ok inI at hfi
  unfold inI at ha
  have hres' : (0 ≤ turn ∧ turn ≤ 255 ∧ 0 ≤ at_ ∧ at_ < (x.files[findP x.files name].text.size : Int) → (⟨x.files.set (findP x.files name) ⟨x.files[findP x.files name].name, xorB x.files[findP x.files name].text at_.toNat turn, x.files[findP x.files name].synced⟩, x.room⟩ : DDrive) = res) ∧ (¬ (0 ≤ turn ∧ turn ≤ 255 ∧ 0 ≤ at_ ∧ at_ < (x.files[findP x.files name].text.size : Int)) → res = x) := by
    rw [← hres, rotF, if_neg h1]
    refine ⟨fun ⟨q1, q2, q3, q4⟩ => ?_, fun q => ?_⟩
    · rw [if_pos (show driveOk x = true ∧ 0 ≤ turn ∧ turn ≤ 255 ∧ hasN x.files name = true from ⟨h2, q1, q2, h4⟩), List.getElem?_eq_getElem hp]
      simp only; rw [if_pos ⟨q3, q4⟩]
    · split
      · rename_i q2
        rw [List.getElem?_eq_getElem hp]
        simp only; rw [if_neg (by omega)]
      · rfl
  generalize hq : findP x.files name = p at *
  rw [he]
  (split <;> rename_i h5 <;> (try simp only [decide_eq_true_eq, decide_eq_false_iff_not, Bool.not_eq_true', Bool.not_eq_false', Bool.not_eq_true, Bool.not_eq_false, List.length_map] at h5) <;> conv => whnf)
  · omega
  (split <;> rename_i h6 <;> (try simp only [decide_eq_true_eq, decide_eq_false_iff_not, Bool.not_eq_true', Bool.not_eq_false', Bool.not_eq_true, Bool.not_eq_false, List.length_map] at h6) <;> conv => whnf)
  · have := hres'.2 (by omega)
    subst this
    exact (by repeat' (first | exact trivial | exact close_int rfl | exact close_str rfl | exact close_bool rfl | exact close_int (by omega) | exact close_row rfl rfl (by first | rfl | simp) (by first | rfl | simp) | exact close_nil (by first | rfl | simp) | exact rfl | apply And.intro | apply closeTs_cons rfl))
  refine ⟨p, rfl, _, at_map hp, ?_⟩; (conv => whnf)
  (split <;> rename_i h7 <;> (try simp only [decide_eq_true_eq, decide_eq_false_iff_not, Bool.not_eq_true', Bool.not_eq_false', Bool.not_eq_true, Bool.not_eq_false, List.length_map] at h7) <;> conv => whnf)
  · have := hres'.2 (by omega)
    subst this
    exact (by repeat' (first | exact trivial | exact close_int rfl | exact close_str rfl | exact close_bool rfl | exact close_int (by omega) | exact close_row rfl rfl (by first | rfl | simp) (by first | rfl | simp) | exact close_nil (by first | rfl | simp) | exact rfl | apply And.intro | apply closeTs_cons rfl))
  refine ⟨_, _, l02Byte_c turn, (by repeat' (first | exact lends_nil | exact lend_dead | apply lends_cons | apply lend_agg | apply lend_one | exact all2_nil | apply all2_cons | exact la_lit rfl | exact la_int (by first | rfl | omega) | exact la_row rfl rfl | exact la_loc rfl rfl rfl (by first | rfl | simp [mkL_length]) (by first | rfl | simp) | exact la_nil rfl | apply la_fn rfl | exact lend_same rfl rfl | exact lend_bor rfl rfl)), ?_⟩; (conv => whnf)
  (split <;> rename_i h3 <;> (try simp only [decide_eq_true_eq, decide_eq_false_iff_not, Bool.not_eq_true', Bool.not_eq_false', Bool.not_eq_true, Bool.not_eq_false, List.length_map] at h3) <;> conv => whnf)
  · have := hres'.2 (by simp at h3; omega)
    subst this
    exact (by repeat' (first | exact trivial | exact close_int rfl | exact close_str rfl | exact close_bool rfl | exact close_int (by omega) | exact close_row rfl rfl (by first | rfl | simp) (by first | rfl | simp) | exact close_nil (by first | rfl | simp) | exact rfl | apply And.intro | apply closeTs_cons rfl))
  simp only [Bool.and_eq_true, decide_eq_true_eq] at h3
  have hr2 := hres'.1 (by omega)
  obtain ⟨i, rfl⟩ : ∃ i : Nat, at_ = (i : Int) := ⟨at_.toNat, by omega⟩
  have hit : i < x.files[p].text.size := by omega
  refine ⟨p, rfl, _, at_map hp, ?_⟩; (conv => whnf)
  refine ⟨by simp [maxLen]; omega, ?_⟩; (conv => whnf)
  refine ⟨i, rfl, hit, ?_⟩; (conv => whnf)
  refine ⟨_, byte_at hit, ?_⟩; (conv => whnf)
  refine ⟨turn, wrap_id (by simp [IntKind.min, IntKind.signed]; omega) (by simp [IntKind.max, IntKind.signed, IntKind.bits]; omega), ?_⟩; (conv => whnf)
  refine ⟨i, rfl, hit, ?_⟩; (conv => whnf)
  refine ⟨_, byte_at hit, ?_⟩; (conv => whnf)
  refine ⟨(x.files[p].text.data.toList.set i (UInt8.ofNat (bits .xor .u8 ((x.files[p].text.data.toList.getD i 0).toNat : Int) turn).toNat)).map byteE, set_byte0 (byte_back _ _ _), ?_⟩; (conv => whnf)
  refine ⟨true, _, x.files[p].text.data.toList.set i (UInt8.ofNat (bits .xor .u8 ((x.files[p].text.data.toList.getD i 0).toNat : Int) turn).toNat), ⟨rfl, by simp, rfl, rfl⟩, List.take_of_length_le (by simp), ?_⟩; (conv => whnf)
  refine ⟨p, rfl, by simpa using hp, ?_⟩; (conv => whnf)
  refine ⟨_, at_map0 hp, ?_⟩; (conv => whnf)
  refine ⟨(x.files.set p ⟨x.files[p].name, xorB x.files[p].text (i : Int).toNat turn, x.files[p].synced⟩).map DStored.enc, set_enc0 rfl, ?_⟩; (conv => whnf)
  subst hr2
  exact ⟨close_row rfl rfl (by simp) rfl, close_int rfl, trivial⟩
end Go.Proofs.Ytlijeincckbdaaa
