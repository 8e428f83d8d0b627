/- What the program's functions on texts and drives reckon, as plain Lean functions; the order of names; the place of a file in a drive. -/
import Derived.Test.YtlijeincckbdaaaDd
import Derived.Lib.Strings
import Derived.Lib.Bytealg
namespace Go.Proofs.Ytlijeincckbdaaa
open Go.RowKit
set_option linter.unusedSimpArgs false
set_option linter.unusedVariables false
/-- Bytes before bytes. -/
def bLt (a b : ByteArray) : Bool := sless a b
/-- May a byte stand in a name at a place? -/
def nmAt (s : ByteArray) (i : Nat) : Bool :=
  let c := (s.data.toList.getD i 0).toNat
  (decide (97 ≤ c) && decide (c ≤ 122)) || (decide (i ≠ 0) && ((decide (48 ≤ c) && decide (c ≤ 57)) || decide (c = 45)))
theorem nmAt_t {s : ByteArray} {i : Nat} (h : (97 ≤ (s.data.toList.getD i 0).toNat ∧ (s.data.toList.getD i 0).toNat ≤ 122) ∨ (i ≠ 0 ∧ ((48 ≤ (s.data.toList.getD i 0).toNat ∧ (s.data.toList.getD i 0).toNat ≤ 57) ∨ (s.data.toList.getD i 0).toNat = 45))) : nmAt s i = true := by
  simp only [nmAt, Bool.or_eq_true, Bool.and_eq_true, decide_eq_true_eq]; exact h
theorem nmAt_f {s : ByteArray} {i : Nat} (h : ¬ ((97 ≤ (s.data.toList.getD i 0).toNat ∧ (s.data.toList.getD i 0).toNat ≤ 122) ∨ (i ≠ 0 ∧ ((48 ≤ (s.data.toList.getD i 0).toNat ∧ (s.data.toList.getD i 0).toNat ≤ 57) ∨ (s.data.toList.getD i 0).toNat = 45)))) : nmAt s i = false := by
  rw [Bool.eq_false_iff]; intro e; apply h
  simpa only [nmAt, Bool.or_eq_true, Bool.and_eq_true, decide_eq_true_eq] using e
def nameOk (s : ByteArray) (most : Int) : Bool := (List.range s.size).all (nmAt s) && (decide ((1 : Int) ≤ s.size) && decide ((s.size : Int) ≤ most))
theorem range_all_true {n : Nat} {p : Nat → Bool} (h : ∀ j, j < n → p j = true) : (List.range n).all p = true := by
  rw [List.all_eq_true]; intro j hj; exact h j (List.mem_range.1 hj)
theorem range_all_false {n j : Nat} {p : Nat → Bool} (hj : j < n) (h : p j = false) : (List.range n).all p = false := by
  rw [List.all_eq_false]; exact ⟨j, List.mem_range.2 hj, by simp [h]⟩
def usedN (fs : List DStored) : Nat := (fs.map fun f => f.text.size).sum
theorem usedN_take_succ {fs : List DStored} {k : Nat} (hk : k < fs.length) : usedN (fs.take (k + 1)) = usedN (fs.take k) + fs[k].text.size := wsum_take_succ (f := fun f : DStored => f.text.size) hk
theorem usedN_take_le (fs : List DStored) (k : Nat) : usedN (fs.take k) ≤ usedN fs := sum_take_le _ fs k
theorem usedN_le (fs : List DStored) : usedN fs ≤ wL DStored.wt fs := by
  unfold wL usedN
  induction fs with
  | nil => simp
  | cons f fs ih =>
    have : f.wt = f.name.size + f.text.size := rfl
    simp only [List.map_cons, List.sum_cons, List.length_cons] at ih ⊢
    omega
/-- Is file i right, and behind the one ahead of it? -/
def fOk (fs : List DStored) (i : Nat) : Bool :=
  match fs[i]? with
  | none => false
  | some f => nameOk f.name 80 && (decide (i = 0) || bLt ((fs[i - 1]?).getD f).name f.name) && decide (f.text.size ≤ 20000) && decide (0 ≤ f.synced) && decide (f.synced ≤ f.text.size)
def filesOk (fs : List DStored) : Bool := (List.range fs.length).all (fOk fs)
def driveOk (d : DDrive) : Bool := decide (d.files.length ≤ 60) && decide (0 ≤ d.room) && decide (d.room ≤ 100000) && filesOk d.files && decide ((usedN d.files : Int) ≤ d.room)
theorem fOk_eq {fs : List DStored} {i : Nat} (hi : i < fs.length) : fOk fs i = (nameOk fs[i].name 80 && (decide (i = 0) || bLt (fs[i - 1]'(by omega)).name fs[i].name) && decide (fs[i].text.size ≤ 20000) && decide (0 ≤ fs[i].synced) && decide (fs[i].synced ≤ fs[i].text.size)) := by
  unfold fOk
  rw [List.getElem?_eq_getElem hi, List.getElem?_eq_getElem (show i - 1 < fs.length by omega)]; rfl
/-- A file behind a crash. -/
def crashN (keep : List Int) (i : Nat) (f : DStored) : Int := f.synced + (if 0 < (keep[i]?).getD 0 then min ((keep[i]?).getD 0) (f.text.size - f.synced) else 0)
def crashOne (keep : List Int) (i : Nat) (f : DStored) : DStored := ⟨f.name, f.text.extract 0 (crashN keep i f).toNat, crashN keep i f⟩
def crash (keep : List Int) (d : DDrive) : DDrive := ⟨d.files.mapIdx (crashOne keep), d.room⟩
theorem fOk_of {d : DDrive} (h : driveOk d = true) {k : Nat} (hk : k < d.files.length) : nameOk d.files[k].name 80 = true ∧ d.files[k].text.size ≤ 20000 ∧ 0 ≤ d.files[k].synced ∧ d.files[k].synced ≤ d.files[k].text.size := by
  unfold driveOk at h
  simp only [Bool.and_eq_true] at h
  have h1 := List.all_eq_true.1 h.1.2 k (List.mem_range.2 hk)
  rw [fOk_eq hk] at h1
  simp only [Bool.and_eq_true, decide_eq_true_eq] at h1
  exact ⟨h1.1.1.1.1, h1.1.1.2, h1.1.2, h1.2⟩
theorem bytesLess_lt : ∀ (x y : List UInt8), Op.bytesLess x y = decide (x < y)
  | [], [] => by simp [Op.bytesLess]
  | _ :: _, [] => by simp [Op.bytesLess]
  | [], _ :: _ => by simp [Op.bytesLess]
  | a :: x, b :: y => by
    rw [Op.bytesLess, bytesLess_lt x y]
    simp only [List.cons_lt_cons_iff]
    by_cases h1 : a < b <;> by_cases h2 : a = b <;> by_cases h3 : x < y <;> simp [h1, h2, h3]
theorem u8_trans {a b c : UInt8} (h : a < b) (k : b < c) : a < c := by rw [UInt8.lt_iff_toNat_lt] at *; omega
theorem u8_irrefl (a : UInt8) : ¬ a < a := by rw [UInt8.lt_iff_toNat_lt]; omega
theorem u8_tri (a b : UInt8) : a < b ∨ a = b ∨ b < a := by
  rcases Nat.lt_trichotomy a.toNat b.toNat with h | h | h
  · exact .inl (UInt8.lt_iff_toNat_lt.2 h)
  · exact .inr (.inl (UInt8.toNat_inj.1 h))
  · exact .inr (.inr (UInt8.lt_iff_toNat_lt.2 h))
theorem bytes_trans : ∀ {x y z : List UInt8}, x < y → y < z → x < z
  | _, [], _, h, _ => by simp at h
  | [], _ :: _, [], _, k => by simp at k
  | [], _ :: _, _ :: _, _, _ => by simp
  | _ :: _, _ :: _, [], _, k => by simp at k
  | a :: x, b :: y, c :: z, h, k => by
    simp only [List.cons_lt_cons_iff] at *
    rcases h with h | ⟨rfl, h⟩
    · rcases k with k | ⟨rfl, k⟩
      · exact .inl (u8_trans h k)
      · exact .inl h
    · rcases k with k | ⟨rfl, k⟩
      · exact .inl k
      · exact .inr ⟨rfl, bytes_trans h k⟩
theorem bytes_irrefl : ∀ (x : List UInt8), ¬ x < x
  | [] => by simp
  | a :: x => by
    simp only [List.cons_lt_cons_iff]
    intro h
    rcases h with h | ⟨_, h⟩
    · exact u8_irrefl a h
    · exact bytes_irrefl x h
theorem cmp_neg : ∀ (x y : List UInt8), Lib.compareBytes x y < 0 ↔ x < y
  | [], [] => by simp [Lib.compareBytes]
  | _ :: _, [] => by simp [Lib.compareBytes]
  | [], _ :: _ => by simp [Lib.compareBytes]
  | a :: x, b :: y => by
    simp only [Lib.compareBytes, List.cons_lt_cons_iff]
    by_cases h1 : a < b
    · simp [h1]
    · by_cases h2 : b < a
      · have : a ≠ b := fun e => u8_irrefl a (by rw [e] at h2 ⊢; exact h2)
        simp [h1, h2, this]
      · have : a = b := by
          rcases u8_tri a b with h | h | h
          · exact absurd h h1
          · exact h
          · exact absurd h h2
        simp [h1, h2, this, cmp_neg x y, u8_irrefl]
theorem cmp_zero : ∀ (x y : List UInt8), Lib.compareBytes x y = 0 ↔ x = y
  | [], [] => by simp [Lib.compareBytes]
  | _ :: _, [] => by simp [Lib.compareBytes]
  | [], _ :: _ => by simp [Lib.compareBytes]
  | a :: x, b :: y => by
    simp only [Lib.compareBytes]
    by_cases h1 : a < b
    · have : a ≠ b := fun e => u8_irrefl b (by rw [e] at h1; exact h1)
      simp [h1, this]
    · by_cases h2 : b < a
      · have : a ≠ b := fun e => u8_irrefl b (by rw [e] at h2; exact h2)
        simp [h1, h2, this]
      · have : a = b := by
          rcases u8_tri a b with h | h | h
          · exact absurd h h1
          · exact h
          · exact absurd h h2
        simp [h1, h2, this, cmp_zero x y, u8_irrefl]
theorem bLt_iff (a b : ByteArray) : bLt a b = true ↔ a.data.toList < b.data.toList := by
  unfold bLt sless
  rw [bytesLess_lt, Lib.toList_data, Lib.toList_data]; simp
theorem bLt_trans {a b c : ByteArray} (h : bLt a b = true) (k : bLt b c = true) : bLt a c = true := (bLt_iff a c).2 (bytes_trans ((bLt_iff a b).1 h) ((bLt_iff b c).1 k))
theorem bLt_irrefl (a : ByteArray) : bLt a a = false := by
  rw [Bool.eq_false_iff]; exact fun h => bytes_irrefl _ ((bLt_iff a a).1 h)
theorem bytes_eq {a b : ByteArray} (h : a.data.toList = b.data.toList) : a = b := by
  cases a; cases b; simp at h; simpa using h
def cmpB (a b : ByteArray) : Int := Lib.compareBytes a.data.toList b.data.toList
theorem cmpB_neg (a b : ByteArray) : cmpB a b < 0 ↔ bLt a b = true := (cmp_neg _ _).trans (bLt_iff a b).symm
theorem cmpB_zero (a b : ByteArray) : cmpB a b = 0 ↔ a = b := (cmp_zero _ _).trans ⟨bytes_eq, fun h => by rw [h]⟩
theorem sorted_of {d : DDrive} (h : driveOk d = true) : ∀ (j i : Nat) (hi : i < j) (hj : j < d.files.length), bLt (d.files[i]'(by omega)).name d.files[j].name = true := by
  have step : ∀ j (hj : j + 1 < d.files.length), bLt (d.files[j]'(by omega)).name d.files[j + 1].name = true := fun j hj => by
    unfold driveOk at h
    simp only [Bool.and_eq_true] at h
    have h1 := List.all_eq_true.1 h.1.2 (j + 1) (List.mem_range.2 hj)
    rw [fOk_eq hj] at h1
    simp only [Bool.and_eq_true, Bool.or_eq_true, decide_eq_true_eq] at h1
    rcases h1.1.1.1.2 with h2 | h2
    · omega
    · exact h2
  intro j
  induction j with
  | zero => intro i hi; omega
  | succ j ih =>
    intro i hi hj
    by_cases e : i = j
    · subst e; exact step i hj
    · exact bLt_trans (ih i (by omega) (by omega)) (step j hj)
/-- The place of a name among names in order, and whether it is there. -/
def findP (fs : List DStored) (name : ByteArray) : Nat := fs.countP fun f => bLt f.name name
def hasN (fs : List DStored) (name : ByteArray) : Bool := fs.any fun f => decide (f.name = name)
theorem countP_cut {α : Type} {p : α → Bool} : ∀ (l : List α) (i : Nat), i ≤ l.length → (∀ t (h : t < l.length), t < i → p l[t] = true) → (∀ t (h : t < l.length), i ≤ t → p l[t] = false) → l.countP p = i
  | [], i, hi, _, _ => by simp at hi; simp [hi]
  | a :: r, 0, _, _, h2 => by
    rw [List.countP_eq_zero]
    intro x hx
    obtain ⟨t, ht, rfl⟩ := List.getElem_of_mem hx
    simp [h2 t ht (Nat.zero_le _)]
  | a :: r, i + 1, hi, h1, h2 => by
    have ha : p a = true := h1 0 (by simp) (Nat.succ_pos _)
    rw [List.countP_cons_of_pos ha, countP_cut r i (by simpa using hi) (fun t h ht => h1 (t + 1) (by simpa using h) (by omega)) (fun t h ht => h2 (t + 1) (by simpa using h) (by omega))]
theorem findP_cut {fs : List DStored} {name : ByteArray} {k : Nat} (hk : k ≤ fs.length) (h1 : ∀ t (h : t < fs.length), t < k → cmpB fs[t].name name < 0) (h2 : ∀ t (h : t < fs.length), k ≤ t → 0 ≤ cmpB fs[t].name name) : findP fs name = k :=
  countP_cut fs k hk (fun t h ht => (cmpB_neg _ _).1 (h1 t h ht)) (fun t h ht => by rw [Bool.eq_false_iff]; exact fun e => by have := h2 t h ht; have := (cmpB_neg _ _).2 e; omega)
theorem hasN_cut {d : DDrive} (hd : driveOk d = true) {name : ByteArray} {k : Nat} (hk : k < d.files.length) (h1 : ∀ t (h : t < d.files.length), t < k → cmpB d.files[t].name name < 0) (h2 : ∀ t (h : t < d.files.length), k ≤ t → 0 ≤ cmpB d.files[t].name name) : hasN d.files name = decide (cmpB d.files[k].name name = 0) := by
  rw [Bool.eq_iff_iff, decide_eq_true_eq, hasN, List.any_eq_true]
  constructor
  · rintro ⟨f, hf, e⟩
    obtain ⟨i, hi, rfl⟩ := List.getElem_of_mem hf
    have e := of_decide_eq_true e
    have h0 := (cmpB_zero _ _).2 e
    by_cases hik : i < k
    · have := h1 i hi hik; omega
    · by_cases e2 : i = k
      · subst e2; exact h0
      · have h3 := sorted_of hd i k (by omega) hi
        rw [e] at h3
        have := (cmpB_neg _ _).2 h3
        have := h2 k hk (Nat.le_refl _)
        omega
  · intro h
    exact ⟨_, List.getElem_mem hk, by simpa using (cmpB_zero _ _).1 h⟩
theorem hasN_none {fs : List DStored} {name : ByteArray} (h1 : ∀ t (h : t < fs.length), cmpB fs[t].name name < 0) : hasN fs name = false := by
  rw [Bool.eq_false_iff]
  intro h
  rw [hasN, List.any_eq_true] at h
  obtain ⟨f, hf, e⟩ := h
  obtain ⟨i, hi, rfl⟩ := List.getElem_of_mem hf
  have := (cmpB_zero _ _).2 (of_decide_eq_true e)
  have := h1 i hi
  omega
def findI (fs : List DStored) (name : ByteArray) : Int := if hasN fs name then ((fs.findIdx fun f => decide (f.name = name) : Nat) : Int) else -1
theorem findI_at {fs : List DStored} {name : ByteArray} {k : Nat} (hk : k < fs.length) (h1 : ∀ t (h : t < fs.length), t < k → fs[t].name ≠ name) (h2 : fs[k].name = name) : findI fs name = k := by
  have h : hasN fs name = true := by rw [hasN, List.any_eq_true]; exact ⟨_, List.getElem_mem hk, by simpa using h2⟩
  rw [findI, if_pos h]
  have : (fs.findIdx fun f => decide (f.name = name)) = k := by
    rw [List.findIdx_eq hk]
    exact ⟨by simpa using h2, fun j hj => by simpa using h1 j (by omega) hj⟩
  rw [this]
theorem findI_none {fs : List DStored} {name : ByteArray} (h1 : ∀ t (h : t < fs.length), fs[t].name ≠ name) : findI fs name = -1 ∧ hasN fs name = false := by
  have h : hasN fs name = false := by
    rw [Bool.eq_false_iff]
    intro h
    rw [hasN, List.any_eq_true] at h
    obtain ⟨f, hf, e⟩ := h
    obtain ⟨i, hi, rfl⟩ := List.getElem_of_mem hf
    exact h1 i hi (of_decide_eq_true e)
  rw [findI, h]
  exact ⟨rfl, rfl⟩
/-- In a right drive the search by halves finds the first place. -/
theorem findI_eq {d : DDrive} (hd : driveOk d = true) {name : ByteArray} (h : hasN d.files name = true) : ∃ hp : findP d.files name < d.files.length, findI d.files name = findP d.files name ∧ (d.files[findP d.files name]'hp).name = name := by
  rw [hasN, List.any_eq_true] at h
  obtain ⟨f, hf, e⟩ := h
  obtain ⟨i, hi, rfl⟩ := List.getElem_of_mem hf
  have e := of_decide_eq_true e
  have hlt : ∀ t (h : t < d.files.length), t < i → bLt d.files[t].name name = true := fun t h ht => by rw [← e]; exact sorted_of hd i t ht hi
  have hge : ∀ t (h : t < d.files.length), i ≤ t → bLt d.files[t].name name = false := fun t h ht => by
    by_cases e2 : t = i
    · subst e2; rw [e]; exact bLt_irrefl _
    · rw [Bool.eq_false_iff]
      intro h3
      have h4 := sorted_of hd t i (by omega) h
      rw [e] at h4
      have := bLt_trans h3 h4
      have h5 := bLt_irrefl d.files[t].name
      rw [h5] at this; cases this
  have hP : findP d.files name = i := countP_cut _ i (by omega) hlt hge
  refine ⟨by omega, ?_, ?_⟩
  · rw [hP]
    refine findI_at hi (fun t h ht e2 => ?_) e
    have h6 := hlt t h ht
    have h7 := bLt_irrefl name
    rw [e2, h7] at h6; cases h6
  · simp only [hP]; exact e
theorem str_ne {a b : ByteArray} (h : ¬ a = b) : (a.toList == b.toList) = false := by
  rw [beq_eq_false_iff_ne, Lib.toList_data, Lib.toList_data]; exact fun e => h (bytes_eq e)
end Go.Proofs.Ytlijeincckbdaaa
