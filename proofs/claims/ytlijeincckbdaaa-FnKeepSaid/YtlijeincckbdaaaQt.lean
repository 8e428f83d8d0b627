/- Snapshots: which are right, their order, which a policy keeps; as plain Lean functions. -/
import Derived.Test.YtlijeincckbdaaaQi
import Derived.Test.YtlijeincckbdaaaQh
import Derived.Test.YtlijeincckbdaaaQk
import Derived.Test.YtlijeincckbdaaaQd
import Derived.Ground.SlsfProg
namespace Go.Proofs.Ytlijeincckbdaaa
open Go.RowKit
set_option linter.unusedSimpArgs false
set_option linter.unusedVariables false
def snapOk (s : DSnap) : Bool := nameOk s.name 20 && wi s.day 0 1000000 && decide ((s.root.size : Int) = 32)
def polOk (p : DPolicy) : Bool := wi p.last 0 100 && wi p.days 0 100 && wi p.weeks 0 100 && wi p.months 0 100
/-- Is snap i right, and behind the one ahead of it? -/
def sAt (l : List DSnap) (i : Nat) : Bool :=
  match l[i]? with
  | none => false
  | some s => snapOk s && (decide (i = 0) || bLt ((l[i - 1]?).getD s).name s.name)
def snapsOk (l : List DSnap) : Bool := decide (l.length ≤ 100) && (List.range l.length).all (sAt l)
theorem sAt_eq {l : List DSnap} {i : Nat} (hi : i < l.length) : sAt l i = (snapOk l[i] && (decide (i = 0) || bLt (l[i - 1]'(by omega)).name l[i].name)) := by
  unfold sAt
  rw [List.getElem?_eq_getElem hi, List.getElem?_eq_getElem (show i - 1 < l.length by omega)]; rfl
theorem sAt_f {l : List DSnap} {i : Nat} (hi : i < l.length) (h : ¬ (snapOk l[i] = true ∧ (i = 0 ∨ sless (l[i - 1]'(by omega)).name l[i].name = true))) : sAt l i = false := by
  rw [sAt_eq hi, Bool.eq_false_iff]; intro e; apply h
  simpa only [Bool.and_eq_true, Bool.or_eq_true, decide_eq_true_eq, bLt] using e
theorem sAt_t {l : List DSnap} {i : Nat} (hi : i < l.length) (h : snapOk l[i] = true ∧ (i = 0 ∨ sless (l[i - 1]'(by omega)).name l[i].name = true)) : sAt l i = true := by
  rw [sAt_eq hi]; simpa only [Bool.and_eq_true, Bool.or_eq_true, decide_eq_true_eq, bLt] using h
theorem snapsOk_f {l : List DSnap} {i : Nat} (hi : i < l.length) (h : sAt l i = false) : snapsOk l = false := by
  simp [snapsOk, range_all_false hi h]
theorem snapsOk_t {l : List DSnap} (h1 : l.length ≤ 100) (h : ∀ j, j < l.length → sAt l j = true) : snapsOk l = true := by
  simp [snapsOk, range_all_true h, h1]
theorem snapsOk_len {l : List DSnap} (h : snapsOk l = true) : l.length ≤ 100 := by
  simp only [snapsOk, Bool.and_eq_true, decide_eq_true_eq] at h; exact h.1
theorem snapsOk_at {l : List DSnap} (h : snapsOk l = true) {i : Nat} (hi : i < l.length) : snapOk l[i] = true ∧ (i = 0 ∨ bLt (l[i - 1]'(by omega)).name l[i].name = true) := by
  simp only [snapsOk, Bool.and_eq_true] at h
  have := List.all_eq_true.1 h.2 i (List.mem_range.2 hi)
  rw [sAt_eq hi] at this
  simpa only [Bool.and_eq_true, Bool.or_eq_true, decide_eq_true_eq] using this
theorem snapsOk_lt {l : List DSnap} (h : snapsOk l = true) : ∀ (j i : Nat) (hi : i < j) (hj : j < l.length), bLt (l[i]'(by omega)).name l[j].name = true := by
  intro j
  induction j with
  | zero => intro i hi; omega
  | succ j ih =>
    intro i hi hj
    have h1 := (snapsOk_at h hj).2.resolve_left (by omega)
    simp only [Nat.add_sub_cancel] at h1
    by_cases e : i = j
    · subst e; exact h1
    · exact bLt_trans (ih i (by omega) (by omega)) h1
/-- No two of one name. -/
def Apart (l : List DSnap) : Prop := l.Pairwise fun a b => a.name ≠ b.name
theorem snapsOk_apart {l : List DSnap} (h : snapsOk l = true) : Apart l := by
  rw [Apart, List.pairwise_iff_getElem]
  intro i j hi hj hij e
  have := snapsOk_lt h j i hij hj
  rw [e, bLt_irrefl] at this; cases this
theorem snapOk_day {s : DSnap} (h : snapOk s = true) : 0 ≤ s.day ∧ s.day ≤ 1000000 := by
  simp only [snapOk, Bool.and_eq_true, wi, decide_eq_true_eq] at h
  omega
theorem snapsOk_mem {l : List DSnap} (h : snapsOk l = true) {s : DSnap} (hs : s ∈ l) : 0 ≤ s.day ∧ s.day ≤ 1000000 := by
  obtain ⟨i, hi, rfl⟩ := List.mem_iff_getElem.1 hs
  exact snapOk_day (snapsOk_at h hi).1

/-! The order: the newest first. -/
def newer (a b : DSnap) : Bool := decide (b.day < a.day) || (decide (a.day = b.day) && bLt b.name a.name)
theorem newer_iff (a b : DSnap) : newer a b = true ↔ b.day < a.day ∨ (a.day = b.day ∧ bLt b.name a.name = true) := by
  simp [newer]
theorem newer_irrefl (a : DSnap) : newer a a = false := by
  rw [Bool.eq_false_iff]; intro h
  rcases (newer_iff a a).1 h with h | ⟨_, h⟩
  · omega
  · rw [bLt_irrefl] at h; cases h
theorem newer_trans {a b c : DSnap} (h : newer a b = true) (k : newer b c = true) : newer a c = true := by
  rw [newer_iff] at *
  rcases h with h | ⟨h, h'⟩ <;> rcases k with k | ⟨k, k'⟩
  · left; omega
  · left; omega
  · left; omega
  · right; exact ⟨by omega, bLt_trans k' h'⟩
theorem bytes_tri : ∀ (x y : List UInt8), x < y ∨ x = y ∨ y < x
  | [], [] => .inr (.inl rfl)
  | [], _ :: _ => .inl (by simp)
  | _ :: _, [] => .inr (.inr (by simp))
  | a :: x, b :: y => by
    simp only [List.cons_lt_cons_iff, List.cons.injEq]
    rcases u8_tri a b with h | rfl | h
    · exact .inl (.inl h)
    · rcases bytes_tri x y with h | h | h
      · exact .inl (.inr ⟨rfl, h⟩)
      · exact .inr (.inl ⟨rfl, h⟩)
      · exact .inr (.inr (.inr ⟨rfl, h⟩))
    · exact .inr (.inr (.inl h))
theorem bLt_tri (a b : ByteArray) : bLt a b = true ∨ a = b ∨ bLt b a = true := by
  rcases bytes_tri a.data.toList b.data.toList with h | h | h
  · exact .inl ((bLt_iff a b).2 h)
  · exact .inr (.inl (bytes_eq h))
  · exact .inr (.inr ((bLt_iff b a).2 h))
theorem newer_tri {a b : DSnap} (h : a.name ≠ b.name) (k : newer a b = false) : newer b a = true := by
  rw [Bool.eq_false_iff, Ne, newer_iff] at k
  rw [newer_iff]
  rcases Int.lt_trichotomy a.day b.day with h1 | h1 | h1
  · left; omega
  · right
    refine ⟨h1.symm, ?_⟩
    rcases bLt_tri a.name b.name with q | q | q
    · exact q
    · exact absurd q h
    · exact absurd (.inr ⟨h1, q⟩) k
  · exact absurd (.inl h1) k
def insK (l : List DSnap) (s : DSnap) : Nat := (l.takeWhile fun x => newer x s).length
def insN (l : List DSnap) (s : DSnap) : List DSnap := l.take (insK l s) ++ [s] ++ l.drop (insK l s)
def newest (l : List DSnap) : List DSnap := l.foldl insN []
theorem tw_len {α : Type} {p : α → Bool} : ∀ {l : List α} {k : Nat}, (∀ j (h : j < l.length), j < k → p l[j] = true) → k ≤ l.length → (∀ h : k < l.length, p l[k] = false) → (l.takeWhile p).length = k
  | [], k, _, h2, _ => by simp at h2; simp [h2]
  | x :: l, 0, _, _, h3 => by
    have := h3 (by simp)
    simp at this
    simp [this]
  | x :: l, k + 1, h1, h2, h3 => by
    have h0 := h1 0 (by simp) (by omega)
    simp at h0
    rw [List.takeWhile_cons_of_pos h0, List.length_cons, tw_len (l := l) (k := k) (fun j hj hjk => by have := h1 (j + 1) (by simp; omega) (by omega); simpa using this) (by simpa using h2) (fun h => by have := h3 (by simp; omega); simpa using this)]
theorem insN_split (l : List DSnap) (s : DSnap) : insN l s = l.takeWhile (fun x => newer x s) ++ [s] ++ l.dropWhile (fun x => newer x s) := by
  have h := List.takeWhile_append_dropWhile (p := fun x => newer x s) (l := l)
  unfold insN insK
  congr 1
  · congr 1
    conv => lhs; rw [← h]
    exact List.take_left' (by rw [h])
  · conv => lhs; rw [← h]
    exact List.drop_left' (by rw [h])
theorem insN_perm (l : List DSnap) (s : DSnap) : (insN l s).Perm (s :: l) := by
  rw [insN_split]
  conv => rhs; rw [← List.takeWhile_append_dropWhile (p := fun x => newer x s) (l := l)]
  simp only [List.append_assoc, List.singleton_append]
  exact List.perm_middle
theorem insN_sorted {l : List DSnap} {s : DSnap} (h : l.Pairwise fun a b => newer a b = true) (hn : ∀ x ∈ l, x.name ≠ s.name) : (insN l s).Pairwise fun a b => newer a b = true := by
  rw [insN_split]
  have e := List.takeWhile_append_dropWhile (p := fun x => newer x s) (l := l)
  have h' : (l.takeWhile (fun x => newer x s) ++ l.dropWhile (fun x => newer x s)).Pairwise fun a b => newer a b = true := by rw [e]; exact h
  rw [List.pairwise_append] at h'
  obtain ⟨hA, hB, hAB⟩ := h'
  have hs : ∀ b ∈ l.dropWhile (fun x => newer x s), newer s b = true := by
    intro b hb
    cases hd : l.dropWhile (fun x => newer x s) with
    | nil => rw [hd] at hb; cases hb
    | cons b0 B =>
      have hb0 : newer b0 s = false := by
        have := List.head?_dropWhile_not (p := fun x => newer x s) (l := l)
        rw [hd] at this
        simpa using this
      have hm0 : b0 ∈ l := by rw [← e, hd]; simp
      have h0 := newer_tri (hn b0 hm0) hb0
      rw [hd] at hb hB
      cases hb with
      | head => exact h0
      | tail _ hb => exact newer_trans h0 (List.rel_of_pairwise_cons hB hb)
  have ha : ∀ a ∈ l.takeWhile (fun x => newer x s), newer a s = true := fun a ha => by
    have := List.all_takeWhile (p := fun x => newer x s) (l := l)
    exact List.all_eq_true.1 this a ha
  rw [List.append_assoc, List.singleton_append, List.pairwise_append]
  refine ⟨hA, List.pairwise_cons.2 ⟨hs, hB⟩, fun a hh b hb => ?_⟩
  cases hb with
  | head => exact ha a hh
  | tail _ hb => exact hAB a hh b hb
theorem newest_succ {l : List DSnap} {i : Nat} (hi : i < l.length) : newest (l.take (i + 1)) = insN (newest (l.take i)) l[i] := by
  unfold newest
  rw [List.take_succ_eq_append_getElem hi, List.foldl_append]; rfl
theorem newest_ok : ∀ (l : List DSnap), Apart l → (newest l).Perm l ∧ (newest l).Pairwise fun a b => newer a b = true := by
  have key : ∀ (l acc : List DSnap), (acc.Pairwise fun a b => newer a b = true) → Apart (acc ++ l) → (l.foldl insN acc).Perm (acc ++ l) ∧ (l.foldl insN acc).Pairwise fun a b => newer a b = true := by
    intro l
    induction l with
    | nil => intro acc h _; simp; exact h
    | cons s l ih =>
      intro acc h ha
      have hn : ∀ x ∈ acc, x.name ≠ s.name := fun x hx => (List.pairwise_append.1 ha).2.2 x hx s (by simp)
      have hp := insN_perm acc s
      have hp2 : (insN acc s ++ l).Perm (acc ++ s :: l) := (hp.append_right l).trans (by simpa using (List.perm_middle (a := s) (l₁ := acc) (l₂ := l)).symm)
      have ha' : Apart (insN acc s ++ l) := (hp2.pairwise_iff (fun {a b} h => Ne.symm h)).2 ha
      obtain ⟨h1, h2⟩ := ih (insN acc s) (insN_sorted h hn) ha'
      exact ⟨h1.trans hp2, h2⟩
  intro l ha
  simpa [newest] using key l [] List.Pairwise.nil (by simpa using ha)
theorem newest_len {l : List DSnap} (h : Apart l) : (newest l).length = l.length := (newest_ok l h).1.length_eq
theorem newest_mem {l : List DSnap} (h : Apart l) {s : DSnap} : s ∈ newest l ↔ s ∈ l := (newest_ok l h).1.mem_iff
/-- Sorted otherwise, it is the same. -/
theorem newest_unique {l d : List DSnap} (ha : Apart l) (hp : d.Perm l) (hs : ∀ i j (hi : i < j) (hj : j < d.length), newer d[j] (d[i]'(by omega)) = false) : d = newest l := by
  obtain ⟨h1, h2⟩ := newest_ok l ha
  have had : Apart d := (hp.pairwise_iff (fun {a b} h => Ne.symm h)).2 ha
  have hsd : d.Pairwise fun a b => newer a b = true := by
    rw [List.pairwise_iff_getElem]
    intro i j hi hj hij
    exact newer_tri (fun e => (List.pairwise_iff_getElem.1 had) i j hi hj hij e.symm) (hs i j hij hj)
  refine List.Perm.eq_of_pairwise (le := fun a b => newer a b = true) (fun a b _ _ h k => ?_) hsd h2 (hp.trans h1.symm)
  have := newer_trans h k
  rw [newer_irrefl] at this; cases this
end Go.Proofs.Ytlijeincckbdaaa
namespace Go.Proofs.Ytlijeincckbdaaa
open Go.RowKit
set_option linter.unusedSimpArgs false
set_option linter.unusedVariables false
instance memB (x : ByteArray) (l : List ByteArray) : Decidable (x ∈ l) := decidable_of_iff (l.any (fun y => decide (y = x)) = true) (by simp)
/-- A text put into a list of texts. -/
def putK (l : List ByteArray) (t : ByteArray) : Nat := (l.takeWhile fun x => bLt x t).length
def putN (l : List ByteArray) (t : ByteArray) : List ByteArray := if l[putK l t]? = some t then l else l.take (putK l t) ++ [t] ++ l.drop (putK l t)
theorem putN_mem {l : List ByteArray} {t x : ByteArray} : x ∈ putN l t ↔ x = t ∨ x ∈ l := by
  unfold putN
  split
  · rename_i h
    have := List.mem_of_getElem? h
    constructor
    · exact .inr
    · rintro (rfl | h) <;> assumption
  · have e := List.take_append_drop (putK l t) l
    constructor
    · intro h
      simp only [List.mem_append, List.mem_singleton] at h
      rcases h with (h | h) | h
      · exact .inr (List.mem_of_mem_take h)
      · exact .inl h
      · exact .inr (List.mem_of_mem_drop h)
    · rintro (rfl | h)
      · simp
      · rw [← e, List.mem_append] at h
        simp only [List.mem_append, List.mem_singleton]
        rcases h with h | h
        · exact .inl (.inl h)
        · exact .inr h
theorem putN_len (l : List ByteArray) (t : ByteArray) : (putN l t).length ≤ l.length + 1 := by
  unfold putN; split
  · omega
  · simp; omega
theorem foldPut_mem {x : ByteArray} : ∀ (ts l : List ByteArray), x ∈ ts.foldl putN l ↔ x ∈ ts ∨ x ∈ l
  | [], l => by simp
  | t :: ts, l => by
    rw [List.foldl_cons, foldPut_mem ts, putN_mem]
    simp only [List.mem_cons]
    constructor
    · rintro (h | h | h)
      · exact .inl (.inr h)
      · exact .inl (.inl h)
      · exact .inr h
    · rintro ((h | h) | h)
      · exact .inr (.inl h)
      · exact .inl h
      · exact .inr (.inr h)
theorem foldPut_len : ∀ (ts l : List ByteArray), (ts.foldl putN l).length ≤ l.length + ts.length
  | [], l => by simp
  | t :: ts, l => by
    rw [List.foldl_cons]
    have := foldPut_len ts (putN l t)
    have := putN_len l t
    simp only [List.length_cons]; omega
/-- The snap ahead has another number (or there is none). -/
def fresh (l : List DSnap) (by_ : Int) (i : Nat) : Bool := decide (i = 0) || match l[i - 1]?, l[i]? with
  | some a, some b => decide (a.day.tdiv by_ ≠ b.day.tdiv by_)
  | _, _ => false
def someStep (l : List DSnap) (many by_ : Int) (out : List ByteArray) (i : Nat) : List ByteArray :=
  match l[i]? with
  | some s => if (out.length : Int) < many ∧ fresh l by_ i = true then out ++ [s.name] else out
  | none => out
/-- Of the first i snaps: those that are met first with their number. -/
def someN (l : List DSnap) (many by_ : Int) : Nat → List ByteArray
  | 0 => []
  | i + 1 => someStep l many by_ (someN l many by_ i) i
theorem someN_len (l : List DSnap) (many by_ : Int) : ∀ i, (someN l many by_ i).length ≤ i
  | 0 => by simp [someN]
  | i + 1 => by
    have := someN_len l many by_ i
    simp only [someN, someStep]
    split
    · split
      · simp; omega
      · omega
    · omega
theorem someN_full {l : List DSnap} {many by_ : Int} {i : Nat} (h : many ≤ ((someN l many by_ i).length : Int)) : ∀ n, i ≤ n → someN l many by_ n = someN l many by_ i := by
  intro n
  induction n with
  | zero => intro hn; have : i = 0 := by omega
            subst this; rfl
  | succ n ih =>
    intro hn
    by_cases e : i = n + 1
    · subst e; rfl
    · have e2 := ih (by omega)
      simp only [someN, someStep, e2]
      split
      · rw [if_neg (by omega)]
      · rfl
/-- The map's way: numbers that were seen, and the map. -/
def keepStep (many by_ : Int) (st : List Int × List (ByteArray × Value)) (s : DSnap) : List Int × List (ByteArray × Value) :=
  if (st.1.contains (s.day.tdiv by_)) = false ∧ (st.1.length : Int) < many then (st.1 ++ [s.day.tdiv by_], upM st.2 s.name (.bool true)) else st
def keepAt (l : List DSnap) (many by_ : Int) (m : List (ByteArray × Value)) (i : Nat) : List Int × List (ByteArray × Value) := (l.take i).foldl (keepStep many by_) ([], m)
theorem keepAt_succ {l : List DSnap} {many by_ : Int} {m : List (ByteArray × Value)} {i : Nat} (hi : i < l.length) : keepAt l many by_ m (i + 1) = keepStep many by_ (keepAt l many by_ m i) l[i] := by
  unfold keepAt
  rw [List.take_succ_eq_append_getElem hi, List.foldl_append]; rfl
theorem getM_upM (es : List (ByteArray × Value)) (s : ByteArray) (u : Value) (x : ByteArray) : getM (upM es s u) x = if x = s then some u else getM es x := by
  induction es with
  | nil =>
    simp only [upM, getM]
    by_cases h : x = s
    · simp [h]
    · rw [if_neg (fun e => h e.symm), if_neg h]
  | cons p es ih =>
    simp only [upM]
    by_cases hp : p.1 = s
    · simp only [if_pos hp, getM]
      by_cases h : x = s
      · simp [h]
      · rw [if_neg (fun e => h e.symm), if_neg h, if_neg (fun e => h (by rw [← e, hp]))]
    · simp only [if_neg hp, getM]
      by_cases hx : p.1 = x
      · rw [if_pos hx, if_neg (fun e => hp (hx.trans e)), if_pos hx]
      · rw [if_neg hx, if_neg hx, ih]
theorem tdiv_mono {a b k : Int} (ha : 0 ≤ a) (hab : a ≤ b) (hk : 0 < k) : a.tdiv k ≤ b.tdiv k := by
  rw [Int.tdiv_eq_ediv_of_nonneg ha, Int.tdiv_eq_ediv_of_nonneg (by omega)]
  exact Int.ediv_le_ediv hk hab
/-- The two ways. -/
theorem keepAt_ok {l : List DSnap} (hd : ∀ s ∈ l, 0 ≤ s.day) (hs : ∀ i j (hi : i < j) (hj : j < l.length), l[j].day ≤ (l[i]'(by omega)).day) {many by_ : Int} (hb : 0 < by_) (m : List (ByteArray × Value)) :
    ∀ i, i ≤ l.length → (keepAt l many by_ m i).1.length = (someN l many by_ i).length ∧ (∀ x, getM (keepAt l many by_ m i).2 x = if x ∈ someN l many by_ i then some (.bool true) else getM m x) ∧
      (((keepAt l many by_ m i).1.length : Int) < many → (∀ j (h : j < i) (hj : j < l.length), l[j].day.tdiv by_ ∈ (keepAt l many by_ m i).1)) ∧ ∀ q ∈ (keepAt l many by_ m i).1, ∃ j, ∃ (h : j < l.length), j < i ∧ l[j].day.tdiv by_ = q
  | 0, _ => by simp [keepAt, someN]
  | i + 1, hi => by
    have hlt : i < l.length := by omega
    obtain ⟨h1, h2, h3, h4⟩ := keepAt_ok hd hs hb m i (by omega)
    have hdi : 0 ≤ l[i].day := hd _ (List.getElem_mem hlt)
    rw [keepAt_succ hlt]
    generalize keepAt l many by_ m i = st at h1 h2 h3 h4
    have hsome : someN l many by_ (i + 1) = if ((someN l many by_ i).length : Int) < many ∧ fresh l by_ i = true then someN l many by_ i ++ [l[i].name] else someN l many by_ i := by
      simp only [someN, someStep, List.getElem?_eq_getElem hlt]
    by_cases hm : (st.1.length : Int) < many
    · have hfr : fresh l by_ i = true ↔ st.1.contains (l[i].day.tdiv by_) = false := by
        rw [Bool.eq_false_iff, Ne, List.contains_iff_mem]
        cases i with
        | zero =>
          simp only [fresh, decide_true, Bool.true_or, true_iff]
          intro hq
          obtain ⟨j, _, h, _⟩ := h4 _ hq
          omega
        | succ k =>
          have e1 : l[k + 1 - 1]? = some (l[k]'(by omega)) := by simp
          simp only [fresh, e1, List.getElem?_eq_getElem hlt, show ¬ (k + 1 = 0) by omega, decide_false, Bool.false_or, decide_eq_true_eq]
          constructor
          · intro hne hq
            obtain ⟨j, hj, hjk, e⟩ := h4 _ hq
            by_cases ejk : j = k
            · subst ejk; exact hne e
            · have a1 := tdiv_mono (hd _ (List.getElem_mem (by omega : k < l.length))) (hs j k (by omega) (by omega)) hb
              have a2 := tdiv_mono hdi (hs k (k + 1) (by omega) hlt) hb
              exact hne (by omega)
          · intro hq e
            exact hq (e ▸ h3 hm k (by omega) (by omega))
      unfold keepStep
      rw [hsome]
      by_cases hc : st.1.contains (l[i].day.tdiv by_) = false
      · rw [if_pos ⟨hc, hm⟩, if_pos ⟨by rw [← h1]; exact hm, hfr.2 hc⟩]
        refine ⟨by simp [h1], fun x => ?_, fun _ j hj hjl => ?_, fun q hq => ?_⟩
        · simp only [getM_upM, h2, List.mem_append, List.mem_singleton]
          by_cases e : x = l[i].name
          · simp [e]
          · simp [e]
        · simp only [List.mem_append, List.mem_singleton]
          by_cases e : j = i
          · subst e; exact .inr rfl
          · exact .inl (h3 hm j (by omega) hjl)
        · simp only [List.mem_append, List.mem_singleton] at hq
          rcases hq with hq | rfl
          · obtain ⟨j, hj, hji, e⟩ := h4 q hq; exact ⟨j, hj, by omega, e⟩
          · exact ⟨i, hlt, by omega, rfl⟩
      · rw [if_neg (fun h => hc h.1), if_neg (fun h => hc (hfr.1 h.2))]
        refine ⟨h1, h2, fun _ j hj hjl => ?_, fun q hq => ?_⟩
        · by_cases e : j = i
          · subst e
            rw [Bool.not_eq_false, List.contains_iff_mem] at hc
            exact hc
          · exact h3 hm j (by omega) hjl
        · obtain ⟨j, hj, hji, e⟩ := h4 q hq; exact ⟨j, hj, by omega, e⟩
    · unfold keepStep
      rw [hsome, if_neg (fun h => hm h.2), if_neg (fun h => hm (by rw [h1]; exact h.1))]
      refine ⟨h1, h2, fun h => absurd h hm, fun q hq => ?_⟩
      obtain ⟨j, hj, hji, e⟩ := h4 q hq; exact ⟨j, hj, by omega, e⟩
/-- The first ones are set. -/
def firstM (l : List DSnap) (i : Nat) : List (ByteArray × Value) := (l.take i).foldl (fun m s => upM m s.name (.bool true)) []
theorem firstM_succ {l : List DSnap} {i : Nat} (hi : i < l.length) : firstM l (i + 1) = upM (firstM l i) l[i].name (.bool true) := by
  unfold firstM
  rw [List.take_succ_eq_append_getElem hi, List.foldl_append]; rfl
def firstN (l : List DSnap) (i : Nat) : List ByteArray := (l.take i).foldl (fun o s => putN o s.name) []
theorem firstN_succ {l : List DSnap} {i : Nat} (hi : i < l.length) : firstN l (i + 1) = putN (firstN l i) l[i].name := by
  unfold firstN
  rw [List.take_succ_eq_append_getElem hi, List.foldl_append]; rfl
theorem first_ok {l : List DSnap} : ∀ i, i ≤ l.length → (∀ x, getM (firstM l i) x = if x ∈ firstN l i then some (.bool true) else none) ∧ (firstN l i).length ≤ i
  | 0, _ => by simp [firstM, firstN, getM]
  | i + 1, hi => by
    obtain ⟨h1, h2⟩ := first_ok (l := l) i (by omega)
    have h3 := putN_len (firstN l i) (l[i]'(by omega)).name
    rw [firstM_succ (by omega), firstN_succ (by omega)]
    refine ⟨fun x => ?_, by omega⟩
    rw [getM_upM, h1]
    simp only [putN_mem]
    by_cases e : x = (l[i]'(by omega)).name
    · simp [e]
    · simp [e]
/-- How many are kept for being the last. -/
def lastK (p : DPolicy) (l : List DSnap) : Nat := (min p.last (l.length : Int)).toNat
def moreN (p : DPolicy) (l : List DSnap) : List ByteArray := someN l p.days 1 l.length ++ someN l p.weeks 7 l.length ++ someN l p.months 30 l.length
/-- The names that are kept, of snaps from the newest on. -/
def keptN (p : DPolicy) (l : List DSnap) : List ByteArray := (moreN p l).foldl putN (firstN l (lastK p l))
def keptM (p : DPolicy) (l : List DSnap) : List (ByteArray × Value) :=
  (keepAt l p.months 30 (keepAt l p.weeks 7 (keepAt l p.days 1 (firstM l (lastK p l)) l.length).2 l.length).2 l.length).2
theorem kept_ok {p : DPolicy} {l : List DSnap} (hd : ∀ s ∈ l, 0 ≤ s.day) (hs : ∀ i j (hi : i < j) (hj : j < l.length), l[j].day ≤ (l[i]'(by omega)).day) (x : ByteArray) :
    getM (keptM p l) x = if x ∈ keptN p l then some (.bool true) else none := by
  have hk : lastK p l ≤ l.length := by unfold lastK; omega
  unfold keptM
  rw [(keepAt_ok hd hs (by omega) _ l.length (Nat.le_refl _)).2.1, (keepAt_ok hd hs (by omega) _ l.length (Nat.le_refl _)).2.1, (keepAt_ok hd hs (by omega) _ l.length (Nat.le_refl _)).2.1, (first_ok (lastK p l) hk).1]
  have : x ∈ keptN p l ↔ x ∈ someN l p.months 30 l.length ∨ x ∈ someN l p.weeks 7 l.length ∨ x ∈ someN l p.days 1 l.length ∨ x ∈ firstN l (lastK p l) := by
    unfold keptN moreN
    rw [foldPut_mem]
    simp only [List.mem_append]
    constructor
    · rintro (((h | h) | h) | h) <;> simp [h]
    · rintro (h | h | h | h) <;> simp [h]
  by_cases a : x ∈ someN l p.months 30 l.length
  · rw [if_pos a, if_pos (this.2 (.inl a))]
  rw [if_neg a]
  by_cases b : x ∈ someN l p.weeks 7 l.length
  · rw [if_pos b, if_pos (this.2 (.inr (.inl b)))]
  rw [if_neg b]
  by_cases c : x ∈ someN l p.days 1 l.length
  · rw [if_pos c, if_pos (this.2 (.inr (.inr (.inl c))))]
  rw [if_neg c]
  by_cases d : x ∈ firstN l (lastK p l)
  · rw [if_pos d, if_pos (this.2 (.inr (.inr (.inr d))))]
  · rw [if_neg d, if_neg (fun h => by rcases this.1 h with h | h | h | h <;> contradiction)]
/-- Sorted, right snaps. -/
theorem newest_days {l : List DSnap} (h : snapsOk l = true) : (∀ s ∈ newest l, 0 ≤ s.day) ∧ ∀ i j (hi : i < j) (hj : j < (newest l).length), (newest l)[j].day ≤ ((newest l)[i]'(by omega)).day := by
  have ha := snapsOk_apart h
  refine ⟨fun s hs => (snapsOk_mem h ((newest_mem ha).1 hs)).1, fun i j hi hj => ?_⟩
  have := (List.pairwise_iff_getElem.1 (newest_ok l ha).2) i j (by omega) hj hi
  rw [newer_iff] at this
  omega
/-- What Keep and Forget return. -/
def chooseN (p : DPolicy) (l : List DSnap) (is : Bool) : List ByteArray :=
  if polOk p = true ∧ snapsOk l = true then (l.filter fun s => decide (s.name ∈ keptN p (newest l)) == is).map (·.name) else []
end Go.Proofs.Ytlijeincckbdaaa
namespace Go.Proofs.Ytlijeincckbdaaa
open Go.RowKit
set_option linter.unusedSimpArgs false
set_option linter.unusedVariables false
set_option maxRecDepth 100000
set_option maxHeartbeats 4000000
theorem isDay_c (a : Int) : Fun1 Try.prog 236 [.one (.lit (.int .i64 a))] (.one (.lit (.bool (wi a 0 1000000)))) := by
  refine fun1_of_vc tb_ok mix (fn := Try.f236) Try.func236 rfl (by kernel_rfl) (by kernel_rfl) (by simp [Try.f236]) (by rfl) ?_
  (conv => whnf)
  refine ⟨_, _, within_w a 0 1000000, (by repeat' (first | exact lends_nil | exact lend_dead | apply lends_cons | apply lend_agg | apply lend_one | exact all2_nil | apply all2_cons | exact la_lit rfl | exact la_int (by first | rfl | omega) | exact la_row rfl rfl | exact la_loc rfl rfl rfl (by first | rfl | simp [mkL_length]) (by first | rfl | simp) | exact la_nil rfl | apply la_fn rfl | exact lend_same rfl rfl | exact lend_bor rfl rfl)), ?_⟩; (conv => whnf)
  exact (by repeat' (first | exact trivial | exact close_int rfl | exact close_str rfl | exact close_bool rfl | exact close_int (by omega) | exact close_row rfl rfl (by first | rfl | simp) (by first | rfl | simp) | exact close_nil (by first | rfl | simp) | exact rfl | apply And.intro | apply closeTs_cons rfl))
theorem l12Day_c (a : Int) : Fun1 Try.prog 213 [.one (.lit (.int .i64 a))] (.one (.lit (.bool (wi a 0 1000000)))) := by
  refine fun1_of_vc tb_ok mix (fn := Try.f213) Try.func213 rfl (by kernel_rfl) (by kernel_rfl) (by simp [Try.f213]) (by rfl) ?_
  (conv => whnf)
  (repeat' (split <;> rename_i hb <;> (try simp only [decide_eq_true_eq, decide_eq_false_iff_not, Bool.not_eq_true', Bool.not_eq_false', Bool.not_eq_true, Bool.not_eq_false, List.length_map] at hb) <;> conv => whnf))
  all_goals exact ⟨close_bool (by simp [wi, *]), trivial⟩
theorem snapImpl_c (s : DSnap) (hs : s.name.size ≤ 4294967296) : Fun1 Try.prog 222 [.agg s.enc] (.one (.lit (.bool (snapOk s)))) := by
  refine fun1_of_vc tb_ok mix (fn := Try.f222) Try.func222 rfl (by kernel_rfl) (by kernel_rfl) (by simp [Try.f222]) (by rfl) ?_
  (conv => whnf)
  refine ⟨_, _, snapName_c s.name hs, (by repeat' (first | exact lends_nil | exact lend_dead | apply lends_cons | apply lend_agg | apply lend_one | exact all2_nil | apply all2_cons | exact la_lit rfl | exact la_int (by first | rfl | omega) | exact la_row rfl rfl | exact la_loc rfl rfl rfl (by first | rfl | simp [mkL_length]) (by first | rfl | simp) | exact la_nil rfl | apply la_fn rfl | exact lend_same rfl rfl | exact lend_bor rfl rfl)), ?_⟩; (conv => whnf)
  (split <;> rename_i h1 <;> (try simp only [decide_eq_true_eq, decide_eq_false_iff_not, Bool.not_eq_true', Bool.not_eq_false', Bool.not_eq_true, Bool.not_eq_false, List.length_map] at h1) <;> conv => whnf)
  · refine ⟨_, _, isDay_c s.day, (by repeat' (first | exact lends_nil | exact lend_dead | apply lends_cons | apply lend_agg | apply lend_one | exact all2_nil | apply all2_cons | exact la_lit rfl | exact la_int (by first | rfl | omega) | exact la_row rfl rfl | exact la_loc rfl rfl rfl (by first | rfl | simp [mkL_length]) (by first | rfl | simp) | exact la_nil rfl | apply la_fn rfl | exact lend_same rfl rfl | exact lend_bor rfl rfl)), ?_⟩; (conv => whnf)
    (split <;> rename_i h2 <;> (try simp only [decide_eq_true_eq, decide_eq_false_iff_not, Bool.not_eq_true', Bool.not_eq_false', Bool.not_eq_true, Bool.not_eq_false, List.length_map] at h2) <;> conv => whnf)
    · exact ⟨close_bool (by simp only [snapOk, h1, h2, Bool.true_and]), trivial⟩
    · exact ⟨close_bool (by simp only [snapOk, h1, h2, Bool.true_and, Bool.false_and]), trivial⟩
  · exact ⟨close_bool (by simp only [snapOk, h1, Bool.false_and]), trivial⟩
theorem snapSpec_c (s : DSnap) (hs : s.name.size ≤ 4294967296) : Fun1 Try.prog 161 [.agg s.enc] (.one (.lit (.bool (snapOk s)))) := by
  refine fun1_of_vc tb_ok mix (fn := Try.f161) Try.func161 rfl (by kernel_rfl) (by kernel_rfl) (by simp [Try.f161]) (by rfl) ?_
  (conv => whnf)
  refine ⟨_, _, l12Name_c s.name hs, (by repeat' (first | exact lends_nil | exact lend_dead | apply lends_cons | apply lend_agg | apply lend_one | exact all2_nil | apply all2_cons | exact la_lit rfl | exact la_int (by first | rfl | omega) | exact la_row rfl rfl | exact la_loc rfl rfl rfl (by first | rfl | simp [mkL_length]) (by first | rfl | simp) | exact la_nil rfl | apply la_fn rfl | exact lend_same rfl rfl | exact lend_bor rfl rfl)), ?_⟩; (conv => whnf)
  (split <;> rename_i h1 <;> (try simp only [decide_eq_true_eq, decide_eq_false_iff_not, Bool.not_eq_true', Bool.not_eq_false', Bool.not_eq_true, Bool.not_eq_false, List.length_map] at h1) <;> conv => whnf)
  · refine ⟨_, _, l12Day_c s.day, (by repeat' (first | exact lends_nil | exact lend_dead | apply lends_cons | apply lend_agg | apply lend_one | exact all2_nil | apply all2_cons | exact la_lit rfl | exact la_int (by first | rfl | omega) | exact la_row rfl rfl | exact la_loc rfl rfl rfl (by first | rfl | simp [mkL_length]) (by first | rfl | simp) | exact la_nil rfl | apply la_fn rfl | exact lend_same rfl rfl | exact lend_bor rfl rfl)), ?_⟩; (conv => whnf)
    (split <;> rename_i h2 <;> (try simp only [decide_eq_true_eq, decide_eq_false_iff_not, Bool.not_eq_true', Bool.not_eq_false', Bool.not_eq_true, Bool.not_eq_false, List.length_map] at h2) <;> conv => whnf)
    · exact ⟨close_bool (by simp only [snapOk, h1, h2, Bool.true_and]), trivial⟩
    · exact ⟨close_bool (by simp only [snapOk, h1, h2, Bool.true_and, Bool.false_and]), trivial⟩
  · exact ⟨close_bool (by simp only [snapOk, h1, Bool.false_and]), trivial⟩
theorem polImpl_c (p : DPolicy) : Fun1 Try.prog 209 [.agg p.enc] (.one (.lit (.bool (polOk p)))) := by
  refine fun1_of_vc tb_ok mix (fn := Try.f209) Try.func209 rfl (by kernel_rfl) (by kernel_rfl) (by simp [Try.f209]) (by rfl) ?_
  (conv => whnf)
  refine ⟨_, _, within_w p.last 0 100, (by repeat' (first | exact lends_nil | exact lend_dead | apply lends_cons | apply lend_agg | apply lend_one | exact all2_nil | apply all2_cons | exact la_lit rfl | exact la_int (by first | rfl | omega) | exact la_row rfl rfl | exact la_loc rfl rfl rfl (by first | rfl | simp [mkL_length]) (by first | rfl | simp) | exact la_nil rfl | apply la_fn rfl | exact lend_same rfl rfl | exact lend_bor rfl rfl)), ?_⟩; (conv => whnf)
  (split <;> rename_i h1 <;> (try simp only [decide_eq_true_eq, decide_eq_false_iff_not, Bool.not_eq_true', Bool.not_eq_false', Bool.not_eq_true, Bool.not_eq_false, List.length_map] at h1) <;> conv => whnf)
  · refine ⟨_, _, within_w p.days 0 100, (by repeat' (first | exact lends_nil | exact lend_dead | apply lends_cons | apply lend_agg | apply lend_one | exact all2_nil | apply all2_cons | exact la_lit rfl | exact la_int (by first | rfl | omega) | exact la_row rfl rfl | exact la_loc rfl rfl rfl (by first | rfl | simp [mkL_length]) (by first | rfl | simp) | exact la_nil rfl | apply la_fn rfl | exact lend_same rfl rfl | exact lend_bor rfl rfl)), ?_⟩; (conv => whnf)
    (split <;> rename_i h2 <;> (try simp only [decide_eq_true_eq, decide_eq_false_iff_not, Bool.not_eq_true', Bool.not_eq_false', Bool.not_eq_true, Bool.not_eq_false, List.length_map] at h2) <;> conv => whnf)
    · refine ⟨_, _, within_w p.weeks 0 100, (by repeat' (first | exact lends_nil | exact lend_dead | apply lends_cons | apply lend_agg | apply lend_one | exact all2_nil | apply all2_cons | exact la_lit rfl | exact la_int (by first | rfl | omega) | exact la_row rfl rfl | exact la_loc rfl rfl rfl (by first | rfl | simp [mkL_length]) (by first | rfl | simp) | exact la_nil rfl | apply la_fn rfl | exact lend_same rfl rfl | exact lend_bor rfl rfl)), ?_⟩; (conv => whnf)
      (split <;> rename_i h3 <;> (try simp only [decide_eq_true_eq, decide_eq_false_iff_not, Bool.not_eq_true', Bool.not_eq_false', Bool.not_eq_true, Bool.not_eq_false, List.length_map] at h3) <;> conv => whnf)
      · refine ⟨_, _, within_w p.months 0 100, (by repeat' (first | exact lends_nil | exact lend_dead | apply lends_cons | apply lend_agg | apply lend_one | exact all2_nil | apply all2_cons | exact la_lit rfl | exact la_int (by first | rfl | omega) | exact la_row rfl rfl | exact la_loc rfl rfl rfl (by first | rfl | simp [mkL_length]) (by first | rfl | simp) | exact la_nil rfl | apply la_fn rfl | exact lend_same rfl rfl | exact lend_bor rfl rfl)), ?_⟩; (conv => whnf)
        exact ⟨close_bool (by simp only [polOk, h1, h2, h3, Bool.true_and]), trivial⟩
      · exact ⟨close_bool (by simp only [polOk, h1, h2, h3, Bool.true_and, Bool.false_and]), trivial⟩
    · exact ⟨close_bool (by simp only [polOk, h1, h2, Bool.true_and, Bool.false_and]), trivial⟩
  · exact ⟨close_bool (by simp only [polOk, h1, Bool.false_and]), trivial⟩
theorem polSpec_c (p : DPolicy) : Fun1 Try.prog 72 [.agg p.enc] (.one (.lit (.bool (polOk p)))) := by
  refine fun1_of_vc tb_ok mix (fn := Try.f72) Try.func72 rfl (by kernel_rfl) (by kernel_rfl) (by simp [Try.f72]) (by rfl) ?_
  (conv => whnf)
  (repeat' (split <;> rename_i hb <;> (try simp only [decide_eq_true_eq, decide_eq_false_iff_not, Bool.not_eq_true', Bool.not_eq_false', Bool.not_eq_true, Bool.not_eq_false, List.length_map] at hb) <;> conv => whnf))
  all_goals exact ⟨close_bool (by simp [polOk, wi, *]), trivial⟩
theorem sizeSnap_c (l : List DSnap) : Fun1 Try.prog 228 [.one (.row true 3 (l.map DSnap.enc))] (.one (.lit (.int .i64 (l.length : Nat)))) := by
  refine fun1_of_vc tb_ok mix (fn := Try.f228) Try.func228 rfl (by kernel_rfl) (by kernel_rfl) (by simp [Try.f228]) (by rfl) ?_
  (conv => whnf)
  exact ⟨close_int (by simp), trivial⟩
theorem sizeInt_c (l : List Int) : Fun1 Try.prog 230 [.one (.row true 1 (l.map eInt))] (.one (.lit (.int .i64 (l.length : Nat)))) := by
  refine fun1_of_vc tb_ok mix (fn := Try.f230) Try.func230 rfl (by kernel_rfl) (by kernel_rfl) (by simp [Try.f230]) (by rfl) ?_
  (conv => whnf)
  exact ⟨close_int (by simp), trivial⟩
theorem snapsSpec_c (l : List DSnap) (hl : l.length ≤ 4294967296) (hok : ∀ s ∈ l, s.ok) : Fun1 Try.prog 73 [.one (.row true 3 (l.map DSnap.enc))] (.one (.lit (.bool (snapsOk l)))) := by
  refine fun1_of_vc tb_ok mix (fn := Try.f73) Try.func73 rfl (by kernel_rfl) (by kernel_rfl) (by simp [Try.f73]) (by rfl) ?_
  (conv => whnf)
  (split <;> rename_i h0 <;> (try simp only [decide_eq_true_eq, decide_eq_false_iff_not, Bool.not_eq_true', Bool.not_eq_false', Bool.not_eq_true, Bool.not_eq_false, List.length_map] at h0) <;> conv => whnf)
  · exact ⟨close_bool (by simp [snapsOk]; omega), trivial⟩
  refine ⟨LG (fun i : Nat => i ≤ l.length ∧ ∀ j, j < i → sAt l j = true) (fun i => l.length - i) (fun i => AS.of [(0, .one (.row true 3 (l.map DSnap.enc))), (3, .one (.lit (.int .i64 (i : Nat))))] []), lg_init 0 ⟨by omega, fun j h => by omega⟩ (weak_of (by repeat (first | refine all_cons (by first | rfl | exact eq_int rfl (by first | rfl | omega | (simp; done) | (simp; omega)) | exact eq_loc rfl (by first | rfl | omega | (simp; done) | (simp; omega)) | exact eq_bool rfl (by simp_all)) ?_ | exact all_nil)) (by repeat (first | refine all_cons (by first | rfl | exact eq_int rfl (by first | rfl | omega | (simp; done) | (simp; omega)) | exact eq_loc rfl (by first | rfl | omega | (simp; done) | (simp; omega)) | exact eq_bool rfl (by simp_all)) ?_ | exact all_nil)) rfl rfl), ?_⟩
  rintro σ k ⟨i, ⟨hi, hc⟩, rfl, rfl⟩
  refine ⟨_, Weak.refl _, ?_⟩
  (conv => whnf)
  (split <;> rename_i h <;> (try simp only [decide_eq_true_eq, decide_eq_false_iff_not, Bool.not_eq_true', Bool.not_eq_false', Bool.not_eq_true, Bool.not_eq_false, List.length_map] at h) <;> conv => whnf)
  · have hlt : i < l.length := by omega
    have hfi := hok _ (List.getElem_mem hlt)
    unfold DSnap.ok inI at hfi
    refine ⟨i, rfl, _, at_map hlt, ?_⟩; (conv => whnf)
    refine ⟨_, _, snapSpec_c l[i] hfi.1, (by repeat' (first | exact lends_nil | exact lend_dead | apply lends_cons | apply lend_agg | apply lend_one | exact all2_nil | apply all2_cons | exact la_lit rfl | exact la_int (by first | rfl | omega) | exact la_row rfl rfl | exact la_loc rfl rfl rfl (by first | rfl | simp [mkL_length]) (by first | rfl | simp) | exact la_nil rfl | apply la_fn rfl | exact lend_same rfl rfl | exact lend_bor rfl rfl)), ?_⟩; (conv => whnf)
    (split <;> rename_i h1 <;> (try simp only [decide_eq_true_eq, decide_eq_false_iff_not, Bool.not_eq_true', Bool.not_eq_false', Bool.not_eq_true, Bool.not_eq_false, List.length_map] at h1) <;> conv => whnf)
    · exact ⟨close_bool (snapsOk_f hlt (sAt_f hlt (by rw [h1]; simp))), trivial⟩
    (split <;> rename_i h2 <;> (try simp only [decide_eq_true_eq, decide_eq_false_iff_not, Bool.not_eq_true', Bool.not_eq_false', Bool.not_eq_true, Bool.not_eq_false, List.length_map] at h2) <;> conv => whnf)
    · refine ⟨((i - 1 : Nat) : Int), by rw [← wrap64_id] <;> omega, ?_⟩; (conv => whnf)
      refine ⟨i - 1, rfl, _, at_map (by omega), ?_⟩; (conv => whnf)
      refine ⟨i, rfl, _, at_map hlt, ?_⟩; (conv => whnf)
      (split <;> rename_i h3 <;> (try simp only [decide_eq_true_eq, decide_eq_false_iff_not, Bool.not_eq_true', Bool.not_eq_false', Bool.not_eq_true, Bool.not_eq_false, List.length_map] at h3) <;> conv => whnf)
      · exact ⟨close_bool (snapsOk_f hlt (sAt_f hlt (by rintro ⟨_, q⟩; rcases q with q | q; omega; simp_all))), trivial⟩
      · (refine ⟨((i + 1 : Nat) : Int), by rw [← wrap64_id] <;> omega, ?_⟩; conv => whnf)
        exact lg_back (i + 1) ⟨by omega, fun j hj => by
          by_cases e : j = i
          · subst e; exact sAt_t hlt ⟨h1, .inr (by simpa using h3)⟩
          · exact hc j (by omega)⟩ (by (try dsimp only); omega) (weak_of (by repeat (first | refine all_cons (by first | rfl | exact eq_int rfl (by first | rfl | omega | (simp; done) | (simp; omega)) | exact eq_loc rfl (by first | rfl | omega | (simp; done) | (simp; omega)) | exact eq_bool rfl (by simp_all)) ?_ | exact all_nil)) (by repeat (first | refine all_cons (by first | rfl | exact eq_int rfl (by first | rfl | omega | (simp; done) | (simp; omega)) | exact eq_loc rfl (by first | rfl | omega | (simp; done) | (simp; omega)) | exact eq_bool rfl (by simp_all)) ?_ | exact all_nil)) rfl rfl)
    · (refine ⟨((i + 1 : Nat) : Int), by rw [← wrap64_id] <;> omega, ?_⟩; conv => whnf)
      exact lg_back (i + 1) ⟨by omega, fun j hj => by
        by_cases e : j = i
        · subst e; exact sAt_t hlt ⟨h1, .inl (by omega)⟩
        · exact hc j (by omega)⟩ (by (try dsimp only); omega) (weak_of (by repeat (first | refine all_cons (by first | rfl | exact eq_int rfl (by first | rfl | omega | (simp; done) | (simp; omega)) | exact eq_loc rfl (by first | rfl | omega | (simp; done) | (simp; omega)) | exact eq_bool rfl (by simp_all)) ?_ | exact all_nil)) (by repeat (first | refine all_cons (by first | rfl | exact eq_int rfl (by first | rfl | omega | (simp; done) | (simp; omega)) | exact eq_loc rfl (by first | rfl | omega | (simp; done) | (simp; omega)) | exact eq_bool rfl (by simp_all)) ?_ | exact all_nil)) rfl rfl)
  · have : i = l.length := by omega
    subst this
    exact ⟨close_bool (snapsOk_t (by omega) hc), trivial⟩
theorem snapsImpl_c (l : List DSnap) (hl : l.length ≤ 4294967296) (hok : ∀ s ∈ l, s.ok) : Fun1 Try.prog 210 [.one (.row true 3 (l.map DSnap.enc))] (.one (.lit (.bool (snapsOk l)))) := by
  refine fun1_of_vc tb_ok mix (fn := Try.f210) Try.func210 rfl (by kernel_rfl) (by kernel_rfl) (by simp [Try.f210]) (by rfl) ?_
  (conv => whnf)
  (split <;> rename_i h0 <;> (try simp only [decide_eq_true_eq, decide_eq_false_iff_not, Bool.not_eq_true', Bool.not_eq_false', Bool.not_eq_true, Bool.not_eq_false, List.length_map] at h0) <;> conv => whnf)
  · exact ⟨close_bool (by simp [snapsOk]; omega), trivial⟩
  refine ⟨LG (fun i : Nat => i ≤ l.length ∧ ∀ j, j < i → sAt l j = true) (fun i => l.length - i) (fun i => AS.of [(0, .one (.row true 3 (l.map DSnap.enc))), (8, .one (.row true 3 (l.map DSnap.enc))), (9, .one (.lit (.int .i64 (l.length : Nat)))), (10, .one (.lit (.int .i64 (i : Nat))))] []), lg_init 0 ⟨by omega, fun j h => by omega⟩ (weak_of (by repeat (first | refine all_cons (by first | rfl | exact eq_int rfl (by first | rfl | omega | (simp; done) | (simp; omega)) | exact eq_loc rfl (by first | rfl | omega | (simp; done) | (simp; omega)) | exact eq_bool rfl (by simp_all)) ?_ | exact all_nil)) (by repeat (first | refine all_cons (by first | rfl | exact eq_int rfl (by first | rfl | omega | (simp; done) | (simp; omega)) | exact eq_loc rfl (by first | rfl | omega | (simp; done) | (simp; omega)) | exact eq_bool rfl (by simp_all)) ?_ | exact all_nil)) rfl rfl), ?_⟩
  rintro σ k ⟨i, ⟨hi, hc⟩, rfl, rfl⟩
  refine ⟨_, Weak.refl _, ?_⟩
  (conv => whnf)
  (split <;> rename_i h <;> (try simp only [decide_eq_true_eq, decide_eq_false_iff_not, Bool.not_eq_true', Bool.not_eq_false', Bool.not_eq_true, Bool.not_eq_false, List.length_map] at h) <;> conv => whnf)
  · have hlt : i < l.length := by omega
    have hfi := hok _ (List.getElem_mem hlt)
    unfold DSnap.ok inI at hfi
    refine ⟨i, rfl, _, at_map hlt, ?_⟩; (conv => whnf)
    refine ⟨_, _, snapImpl_c l[i] hfi.1, (by repeat' (first | exact lends_nil | exact lend_dead | apply lends_cons | apply lend_agg | apply lend_one | exact all2_nil | apply all2_cons | exact la_lit rfl | exact la_int (by first | rfl | omega) | exact la_row rfl rfl | exact la_loc rfl rfl rfl (by first | rfl | simp [mkL_length]) (by first | rfl | simp) | exact la_nil rfl | apply la_fn rfl | exact lend_same rfl rfl | exact lend_bor rfl rfl)), ?_⟩; (conv => whnf)
    (split <;> rename_i h1 <;> (try simp only [decide_eq_true_eq, decide_eq_false_iff_not, Bool.not_eq_true', Bool.not_eq_false', Bool.not_eq_true, Bool.not_eq_false, List.length_map] at h1) <;> conv => whnf)
    · exact ⟨close_bool (snapsOk_f hlt (sAt_f hlt (by rw [h1]; simp))), trivial⟩
    (split <;> rename_i h2 <;> (try simp only [decide_eq_true_eq, decide_eq_false_iff_not, Bool.not_eq_true', Bool.not_eq_false', Bool.not_eq_true, Bool.not_eq_false, List.length_map] at h2) <;> conv => whnf)
    · refine ⟨((i - 1 : Nat) : Int), by rw [← wrap64_id] <;> omega, ?_⟩; (conv => whnf)
      refine ⟨i - 1, rfl, _, at_map (by omega), ?_⟩; (conv => whnf)
      (split <;> rename_i h3 <;> (try simp only [decide_eq_true_eq, decide_eq_false_iff_not, Bool.not_eq_true', Bool.not_eq_false', Bool.not_eq_true, Bool.not_eq_false, List.length_map] at h3) <;> conv => whnf)
      · exact ⟨close_bool (snapsOk_f hlt (sAt_f hlt (by rintro ⟨_, q⟩; rcases q with q | q; omega; simp_all))), trivial⟩
      · (refine ⟨((i + 1 : Nat) : Int), by rw [← wrap64_id] <;> omega, ?_⟩; conv => whnf)
        exact lg_back (i + 1) ⟨by omega, fun j hj => by
          by_cases e : j = i
          · subst e; exact sAt_t hlt ⟨h1, .inr (by simpa using h3)⟩
          · exact hc j (by omega)⟩ (by (try dsimp only); omega) (weak_of (by repeat (first | refine all_cons (by first | rfl | exact eq_int rfl (by first | rfl | omega | (simp; done) | (simp; omega)) | exact eq_loc rfl (by first | rfl | omega | (simp; done) | (simp; omega)) | exact eq_bool rfl (by simp_all)) ?_ | exact all_nil)) (by repeat (first | refine all_cons (by first | rfl | exact eq_int rfl (by first | rfl | omega | (simp; done) | (simp; omega)) | exact eq_loc rfl (by first | rfl | omega | (simp; done) | (simp; omega)) | exact eq_bool rfl (by simp_all)) ?_ | exact all_nil)) rfl rfl)
    · (refine ⟨((i + 1 : Nat) : Int), by rw [← wrap64_id] <;> omega, ?_⟩; conv => whnf)
      exact lg_back (i + 1) ⟨by omega, fun j hj => by
        by_cases e : j = i
        · subst e; exact sAt_t hlt ⟨h1, .inl (by omega)⟩
        · exact hc j (by omega)⟩ (by (try dsimp only); omega) (weak_of (by repeat (first | refine all_cons (by first | rfl | exact eq_int rfl (by first | rfl | omega | (simp; done) | (simp; omega)) | exact eq_loc rfl (by first | rfl | omega | (simp; done) | (simp; omega)) | exact eq_bool rfl (by simp_all)) ?_ | exact all_nil)) (by repeat (first | refine all_cons (by first | rfl | exact eq_int rfl (by first | rfl | omega | (simp; done) | (simp; omega)) | exact eq_loc rfl (by first | rfl | omega | (simp; done) | (simp; omega)) | exact eq_bool rfl (by simp_all)) ?_ | exact all_nil)) rfl rfl)
  · have : i = l.length := by omega
    subst this
    exact ⟨close_bool (snapsOk_t (by omega) hc), trivial⟩
end Go.Proofs.Ytlijeincckbdaaa
namespace Go.Proofs.Ytlijeincckbdaaa
open Go.RowKit
set_option linter.unusedSimpArgs false
set_option linter.unusedVariables false
set_option maxRecDepth 100000
set_option maxHeartbeats 4000000
theorem isNaN_c (a : Int) : Fun1 Try.prog 239 [.one (.lit (.int .i64 a))] (.one (.lit (.bool false))) := by
  refine fun1_of_vc tb_ok mix (fn := Try.f239) Try.func239 rfl (by kernel_rfl) (by kernel_rfl) (by simp [Try.f239]) (by rfl) ?_
  (conv => whnf)
  exact ⟨close_bool (by simp), trivial⟩
def cmpI (a b : Int) : Int := if a < b then -1 else if b < a then 1 else 0
theorem cmpInt_c (a b : Int) : Fun1 Try.prog 227 [.one (.lit (.int .i64 a)), .one (.lit (.int .i64 b))] (.one (.lit (.int .i64 (cmpI a b)))) := by
  refine fun1_of_vc tb_ok mix (fn := Try.f227) Try.func227 rfl (by kernel_rfl) (by kernel_rfl) (by simp [Try.f227]) (by rfl) ?_
  (conv => whnf)
  refine ⟨_, _, isNaN_c a, (by repeat' (first | exact lends_nil | exact lend_dead | apply lends_cons | apply lend_agg | apply lend_one | exact all2_nil | apply all2_cons | exact la_lit rfl | exact la_int (by first | rfl | omega) | exact la_row rfl rfl | exact la_loc rfl rfl rfl (by first | rfl | simp [mkL_length]) (by first | rfl | simp) | exact la_nil rfl | apply la_fn rfl | exact lend_same rfl rfl | exact lend_bor rfl rfl)), ?_⟩; (conv => whnf)
  refine ⟨_, _, isNaN_c b, (by repeat' (first | exact lends_nil | exact lend_dead | apply lends_cons | apply lend_agg | apply lend_one | exact all2_nil | apply all2_cons | exact la_lit rfl | exact la_int (by first | rfl | omega) | exact la_row rfl rfl | exact la_loc rfl rfl rfl (by first | rfl | simp [mkL_length]) (by first | rfl | simp) | exact la_nil rfl | apply la_fn rfl | exact lend_same rfl rfl | exact lend_bor rfl rfl)), ?_⟩; (conv => whnf)
  (split <;> rename_i h1 <;> (try simp only [decide_eq_true_eq, decide_eq_false_iff_not, Bool.not_eq_true', Bool.not_eq_false', Bool.not_eq_true, Bool.not_eq_false, List.length_map] at h1) <;> conv => whnf)
  · exact ⟨close_int (by rw [cmpI, if_pos h1]), trivial⟩
  (split <;> rename_i h2 <;> (try simp only [decide_eq_true_eq, decide_eq_false_iff_not, Bool.not_eq_true', Bool.not_eq_false', Bool.not_eq_true, Bool.not_eq_false, List.length_map] at h2) <;> conv => whnf)
  · exact ⟨close_int (by rw [cmpI, if_neg (by omega), if_pos (by omega)]), trivial⟩
  · exact ⟨close_int (by rw [cmpI, if_neg (by omega), if_neg (by omega)]), trivial⟩
def orI (l : List Int) : Int := (l.find? (fun x => decide (x ≠ 0))).getD 0
theorem orI_at {l : List Int} {i : Nat} (hi : i < l.length) (h1 : ∀ j (h : j < l.length), j < i → l[j] = 0) (h2 : l[i] ≠ 0) : orI l = l[i] := by
  unfold orI
  rw [(List.find?_eq_some_iff_getElem (b := l[i])).2 ⟨by simpa using h2, i, hi, rfl, fun j hj => by simpa using h1 j (by omega) hj⟩]; rfl
theorem orI_none {l : List Int} (h1 : ∀ j (h : j < l.length), l[j] = 0) : orI l = 0 := by
  unfold orI
  rw [List.find?_eq_none.2 fun x hx => by
    obtain ⟨j, hj, rfl⟩ := List.mem_iff_getElem.1 hx
    simpa using h1 j hj]; rfl
theorem cmpOr_c (l : List Int) (hl : l.length ≤ 4294967296) : Fun1 Try.prog 226 [.one (.row true 1 (l.map eInt))] (.one (.lit (.int .i64 (orI l)))) := by
  refine fun1_of_vc tb_ok mix (fn := Try.f226) Try.func226 rfl (by kernel_rfl) (by kernel_rfl) (by simp [Try.f226]) (by rfl) ?_
  (conv => whnf)
  refine ⟨LG (fun i : Nat => i ≤ l.length ∧ ∀ j (h : j < l.length), j < i → l[j] = 0) (fun i => l.length - i) (fun i => AS.of [(3, .one (.lit (.int .i64 0))), (6, .one (.row true 1 (l.map eInt))), (7, .one (.lit (.int .i64 (l.length : Nat)))), (8, .one (.lit (.int .i64 (i : Nat))))] []), lg_init 0 ⟨by omega, fun j _ h => by omega⟩ (weak_of (by repeat (first | refine all_cons (by first | rfl | exact eq_int rfl (by first | rfl | omega | (simp; done) | (simp; omega)) | exact eq_loc rfl (by first | rfl | omega | (simp; done) | (simp; omega)) | exact eq_bool rfl (by simp_all)) ?_ | exact all_nil)) (by repeat (first | refine all_cons (by first | rfl | exact eq_int rfl (by first | rfl | omega | (simp; done) | (simp; omega)) | exact eq_loc rfl (by first | rfl | omega | (simp; done) | (simp; omega)) | exact eq_bool rfl (by simp_all)) ?_ | exact all_nil)) rfl rfl), ?_⟩
  rintro σ k ⟨i, ⟨hi, hc⟩, rfl, rfl⟩
  refine ⟨_, Weak.refl _, ?_⟩
  (conv => whnf)
  (split <;> rename_i h <;> (try simp only [decide_eq_true_eq, decide_eq_false_iff_not, Bool.not_eq_true', Bool.not_eq_false', Bool.not_eq_true, Bool.not_eq_false, List.length_map] at h) <;> conv => whnf)
  · have hlt : i < l.length := by omega
    refine ⟨i, rfl, _, at_map hlt, ?_⟩; (conv => whnf)
    (split <;> rename_i h1 <;> (try simp only [decide_eq_true_eq, decide_eq_false_iff_not, Bool.not_eq_true', Bool.not_eq_false', Bool.not_eq_true, Bool.not_eq_false, List.length_map] at h1) <;> conv => whnf)
    · exact ⟨close_int (orI_at hlt hc (by simpa using h1)), trivial⟩
    · (refine ⟨((i + 1 : Nat) : Int), by rw [← wrap64_id] <;> omega, ?_⟩; conv => whnf)
      exact lg_back (i + 1) ⟨by omega, fun j hj hji => by
        by_cases e : j = i
        · subst e; simpa using h1
        · exact hc j hj (by omega)⟩ (by (try dsimp only); omega) (weak_of (by repeat (first | refine all_cons (by first | rfl | exact eq_int rfl (by first | rfl | omega | (simp; done) | (simp; omega)) | exact eq_loc rfl (by first | rfl | omega | (simp; done) | (simp; omega)) | exact eq_bool rfl (by simp_all)) ?_ | exact all_nil)) (by repeat (first | refine all_cons (by first | rfl | exact eq_int rfl (by first | rfl | omega | (simp; done) | (simp; omega)) | exact eq_loc rfl (by first | rfl | omega | (simp; done) | (simp; omega)) | exact eq_bool rfl (by simp_all)) ?_ | exact all_nil)) rfl rfl)
  · have : i = l.length := by omega
    subst this
    exact ⟨close_int (orI_none fun j hj => hc j hj hj), trivial⟩
/-- The order by which the program sorts. -/
def cmpS (x y : DSnap) : Int := orI [cmpI y.day x.day, cmpB y.name x.name]
theorem cmpS_lt (x y : DSnap) : (cmpS x y < 0) ↔ newer x y = true := by
  rw [newer_iff]
  unfold cmpS orI cmpI
  have h1 := cmpB_neg y.name x.name
  rcases Int.lt_trichotomy y.day x.day with h | h | h
  · simp [h]
  · simp only [h, Int.lt_irrefl, if_false]
    by_cases h2 : cmpB y.name x.name = 0
    · simp [h2] at h1 ⊢; exact h1
    · simp [h2]; exact h1
  · have : ¬ y.day < x.day := by omega
    simp [h, this]; omega
theorem keptCmp_c (x y : DSnap) : Fun1 Try.prog 225 [.agg x.enc, .agg y.enc] (.one (.lit (.int .i64 (cmpS x y)))) := by
  refine fun1_of_vc tb_ok mix (fn := Try.f225) Try.func225 rfl (by kernel_rfl) (by kernel_rfl) (by simp [Try.f225]) (by rfl) ?_
  (conv => whnf)
  refine ⟨_, _, cmpInt_c y.day x.day, (by repeat' (first | exact lends_nil | exact lend_dead | apply lends_cons | apply lend_agg | apply lend_one | exact all2_nil | apply all2_cons | exact la_lit rfl | exact la_int (by first | rfl | omega) | exact la_row rfl rfl | exact la_loc rfl rfl rfl (by first | rfl | simp [mkL_length]) (by first | rfl | simp) | exact la_nil rfl | apply la_fn rfl | exact lend_same rfl rfl | exact lend_bor rfl rfl)), ?_⟩; (conv => whnf)
  refine ⟨_, _, compare_c y.name x.name, (by repeat' (first | exact lends_nil | exact lend_dead | apply lends_cons | apply lend_agg | apply lend_one | exact all2_nil | apply all2_cons | exact la_lit rfl | exact la_int (by first | rfl | omega) | exact la_row rfl rfl | exact la_loc rfl rfl rfl (by first | rfl | simp [mkL_length]) (by first | rfl | simp) | exact la_nil rfl | apply la_fn rfl | exact lend_same rfl rfl | exact lend_bor rfl rfl)), ?_⟩; (conv => whnf)
  refine ⟨_, _, cmpOr_c [cmpI y.day x.day, cmpB y.name x.name] (by simp), (by repeat' (first | exact lends_nil | exact lend_dead | apply lends_cons | apply lend_agg | apply lend_one | exact all2_nil | apply all2_cons | exact la_lit rfl | exact la_int (by first | rfl | omega) | exact la_row rfl rfl | exact la_loc rfl rfl rfl (by first | rfl | simp [mkL_length]) (by first | rfl | simp) | exact la_nil rfl | apply la_fn rfl | exact lend_same rfl rfl | exact lend_bor rfl rfl)), ?_⟩; (conv => whnf)
  exact ⟨close_int rfl, trivial⟩
def idxI (l : List Int) (v : Int) : Int := match l.findIdx? (fun x => decide (x = v)) with | some i => i | none => -1
theorem idxInt_c (l : List Int) (v : Int) (hl : l.length ≤ 4294967296) : Fun1 Try.prog 240 [.one (.row true 1 (l.map eInt)), .one (.lit (.int .i64 v))] (.one (.lit (.int .i64 (idxI l v)))) := by
  refine fun1_of_vc tb_ok mix (fn := Try.f240) Try.func240 rfl (by kernel_rfl) (by kernel_rfl) (by simp [Try.f240]) (by rfl) ?_
  (conv => whnf)
  refine ⟨LG (fun i : Nat => i ≤ l.length ∧ ∀ j (h : j < l.length), j < i → l[j] ≠ v) (fun i => l.length - i) (fun i => AS.of [(0, .one (.row true 1 (l.map eInt))), (1, .one (.lit (.int .i64 v))), (7, .one (.lit (.int .i64 (l.length : Nat)))), (8, .one (.lit (.int .i64 (i : Nat))))] []), lg_init 0 ⟨by omega, fun j _ h => by omega⟩ (weak_of (by repeat (first | refine all_cons (by first | rfl | exact eq_int rfl (by first | rfl | omega | (simp; done) | (simp; omega)) | exact eq_loc rfl (by first | rfl | omega | (simp; done) | (simp; omega)) | exact eq_bool rfl (by simp_all)) ?_ | exact all_nil)) (by repeat (first | refine all_cons (by first | rfl | exact eq_int rfl (by first | rfl | omega | (simp; done) | (simp; omega)) | exact eq_loc rfl (by first | rfl | omega | (simp; done) | (simp; omega)) | exact eq_bool rfl (by simp_all)) ?_ | exact all_nil)) rfl rfl), ?_⟩
  rintro σ k ⟨i, ⟨hi, hc⟩, rfl, rfl⟩
  refine ⟨_, Weak.refl _, ?_⟩
  (conv => whnf)
  (split <;> rename_i h <;> (try simp only [decide_eq_true_eq, decide_eq_false_iff_not, Bool.not_eq_true', Bool.not_eq_false', Bool.not_eq_true, Bool.not_eq_false, List.length_map] at h) <;> conv => whnf)
  · have hlt : i < l.length := by omega
    refine ⟨i, rfl, _, at_map hlt, ?_⟩; (conv => whnf)
    (split <;> rename_i h1 <;> (try simp only [decide_eq_true_eq, decide_eq_false_iff_not, Bool.not_eq_true', Bool.not_eq_false', Bool.not_eq_true, Bool.not_eq_false, List.length_map] at h1) <;> conv => whnf)
    · refine ⟨close_int ?_, trivial⟩
      have : l.findIdx? (fun x => decide (x = v)) = some i := by
        rw [List.findIdx?_eq_some_iff_getElem]
        exact ⟨hlt, by simpa using h1.symm, fun j hj => by simpa using hc j (by omega) hj⟩
      unfold idxI; rw [this]
    · (refine ⟨((i + 1 : Nat) : Int), by rw [← wrap64_id] <;> omega, ?_⟩; conv => whnf)
      exact lg_back (i + 1) ⟨by omega, fun j hj hji => by
        by_cases e : j = i
        · subst e; exact fun q => h1 q.symm
        · exact hc j hj (by omega)⟩ (by (try dsimp only); omega) (weak_of (by repeat (first | refine all_cons (by first | rfl | exact eq_int rfl (by first | rfl | omega | (simp; done) | (simp; omega)) | exact eq_loc rfl (by first | rfl | omega | (simp; done) | (simp; omega)) | exact eq_bool rfl (by simp_all)) ?_ | exact all_nil)) (by repeat (first | refine all_cons (by first | rfl | exact eq_int rfl (by first | rfl | omega | (simp; done) | (simp; omega)) | exact eq_loc rfl (by first | rfl | omega | (simp; done) | (simp; omega)) | exact eq_bool rfl (by simp_all)) ?_ | exact all_nil)) rfl rfl)
  · have : i = l.length := by omega
    subst this
    refine ⟨close_int ?_, trivial⟩
    have : l.findIdx? (fun x => decide (x = v)) = none := by
      rw [List.findIdx?_eq_none_iff]
      intro x hx
      obtain ⟨j, hj, rfl⟩ := List.mem_iff_getElem.1 hx
      simpa using hc j hj hj
    unfold idxI; rw [this]
theorem contInt_c (l : List Int) (v : Int) (hl : l.length ≤ 4294967296) : Fun1 Try.prog 229 [.one (.row true 1 (l.map eInt)), .one (.lit (.int .i64 v))] (.one (.lit (.bool (l.contains v)))) := by
  refine fun1_of_vc tb_ok mix (fn := Try.f229) Try.func229 rfl (by kernel_rfl) (by kernel_rfl) (by simp [Try.f229]) (by rfl) ?_
  (conv => whnf)
  refine ⟨_, _, idxInt_c l v hl, (by repeat' (first | exact lends_nil | exact lend_dead | apply lends_cons | apply lend_agg | apply lend_one | exact all2_nil | apply all2_cons | exact la_lit rfl | exact la_int (by first | rfl | omega) | exact la_row rfl rfl | exact la_loc rfl rfl rfl (by first | rfl | simp [mkL_length]) (by first | rfl | simp) | exact la_nil rfl | apply la_fn rfl | exact lend_same rfl rfl | exact lend_bor rfl rfl)), ?_⟩; (conv => whnf)
  refine ⟨close_bool ?_, trivial⟩
  unfold idxI
  cases hq : l.findIdx? (fun x => decide (x = v)) with
  | some i =>
    rw [List.findIdx?_eq_some_iff_getElem] at hq
    obtain ⟨h1, h2, _⟩ := hq
    have : l.contains v = true := List.contains_iff_mem.2 (by have := List.getElem_mem h1; rw [of_decide_eq_true h2] at this; exact this)
    rw [this]; simp
  | none =>
    rw [List.findIdx?_eq_none_iff] at hq
    have : l.contains v = false := by
      rw [Bool.eq_false_iff, Ne, List.contains_iff_mem]
      intro hm
      have := hq v hm
      simp at this
    rw [this]; simp
theorem cloneSnap_c (l : List DSnap) (hl : l.length ≤ 4294967296) : Fun1 Try.prog 223 [.one (.row true 3 (l.map DSnap.enc))] (.one (.row true 3 (l.map DSnap.enc))) := by
  refine fun1_nil (fun h c => ?_) ?_
  · refine fun1_of_vc tb_ok mix (fn := Try.f223) Try.func223 rfl (by kernel_rfl) (by kernel_rfl) (by simp [Try.f223]) (by show AV.nb (4 + 1) _ = true; exact nb_map (n := 4) (fun y => DSnap.enc_nbn 4 y) _) ?_
    (conv => whnf)
    exact ⟨close_nil h, trivial⟩
  · refine fun1_of_vc tb_ok mix (fn := Try.f223) Try.func223 rfl (by kernel_rfl) (by kernel_rfl) (by simp [Try.f223]) (by show AV.nb (4 + 1) _ = true; exact nb_map (n := 4) (fun y => DSnap.enc_nbn 4 y) _) ?_
    (conv => whnf)
    refine ⟨true, _, ⟨rfl, rfl, rfl⟩, ?_⟩; (conv => whnf)
    refine ⟨_, laid_map (f := DSnap.enc) (fun _ => rfl) l, rfl, rfl, rfl, by simp [maxLen, chunk]; omega, by simp [chunk]; omega, ?_⟩; (conv => whnf)
    exact ⟨close_row rfl rfl (by simp [chunk]) (by simp [chunk]), trivial⟩
end Go.Proofs.Ytlijeincckbdaaa
namespace Go.Proofs.Ytlijeincckbdaaa
open Go.RowKit
set_option linter.unusedSimpArgs false
set_option linter.unusedVariables false
set_option maxRecDepth 100000
set_option maxHeartbeats 4000000
def snapSortLay_ren : Go.Shelf.Ren := ⟨fun | 6 => 224 | 15 => 238 | 14 => 237 | 28 => 252 | 29 => 253 | 20 => 244 | 21 => 245 | 22 => 246 | 23 => 247 | 24 => 248 | 25 => 249 | 26 => 250 | 27 => 251 | 46 => 256 | 47 => 257 | 48 => 258 | 49 => 259 | 50 => 260 | 57 => 261 | n => n, fun | 22 => 105 | 24 => 119 | 25 => 246 | 3 => 3 | 39 => 223 | 0 => 0 | 53 => 273 | 55 => 213 | 4 => 4 | 46 => 267 | 45 => 266 | 50 => 136 | 5 => 5 | 9 => 9 | 66 => 278 | 70 => 282 | 76 => 284 | 77 => 285 | n => n, fun | n => n⟩
theorem snapSortLay : Go.Proofs.SlLaysF0.n6 Try.prog snapSortLay_ren := {
  mixed := by kernel_rfl
  f6 := ⟨Try.f224.name, by decide, Try.func224.trans (congrArg some (by kernel_rfl))⟩
  f14 := ⟨Try.f237.name, by decide, Try.func237.trans (congrArg some (by kernel_rfl))⟩
  f15 := Try.func238.trans (congrArg some (by kernel_rfl))
  f20 := ⟨Try.f244.name, by decide, Try.func244.trans (congrArg some (by kernel_rfl))⟩
  f21 := ⟨Try.f245.name, by decide, Try.func245.trans (congrArg some (by kernel_rfl))⟩
  f22 := ⟨Try.f246.name, by decide, Try.func246.trans (congrArg some (by kernel_rfl))⟩
  f23 := ⟨Try.f247.name, by decide, Try.func247.trans (congrArg some (by kernel_rfl))⟩
  f24 := ⟨Try.f248.name, by decide, Try.func248.trans (congrArg some (by kernel_rfl))⟩
  f25 := ⟨Try.f249.name, by decide, Try.func249.trans (congrArg some (by kernel_rfl))⟩
  f26 := ⟨Try.f250.name, by decide, Try.func250.trans (congrArg some (by kernel_rfl))⟩
  f27 := ⟨Try.f251.name, by decide, Try.func251.trans (congrArg some (by kernel_rfl))⟩
  f28 := Try.func252.trans (congrArg some (by kernel_rfl))
  f29 := Try.func253.trans (congrArg some (by kernel_rfl))
  f46 := ⟨Try.f256.name, by decide, Try.func256.trans (congrArg some (by kernel_rfl))⟩
  f47 := Try.func257.trans (congrArg some (by kernel_rfl))
  f48 := Try.func258.trans (congrArg some (by kernel_rfl))
  f49 := ⟨Try.f259.name, by decide, Try.func259.trans (congrArg some (by kernel_rfl))⟩
  f50 := ⟨Try.f260.name, by decide, Try.func260.trans (congrArg some (by kernel_rfl))⟩
  f57 := ⟨Try.f261.name, by decide, Try.func261.trans (congrArg some (by kernel_rfl))⟩
  t0 := Try.underlying0
  a0 := Try.isAgg0
  z0 := Try.sizeOf0
  v0 := Try.zeroValue0
  t3 := Try.underlying3
  a3 := Try.isAgg3
  z3 := Try.sizeOf3
  v3 := Try.zeroValue3
  t4 := Try.underlying4
  a4 := Try.isAgg4
  z4 := Try.sizeOf4
  v4 := Try.zeroValue4
  t5 := Try.underlying5
  a5 := Try.isAgg5
  z5 := Try.sizeOf5
  v5 := Try.zeroValue5
  t9 := Try.underlying9
  a9 := Try.isAgg9
  z9 := Try.sizeOf9
  v9 := Try.zeroValue9
  t22 := Try.underlying105
  a22 := Try.isAgg105
  z22 := Try.sizeOf105
  v22 := Try.zeroValue105
  t25 := Try.underlying246
  a25 := Try.isAgg246
  z25 := Try.sizeOf246
  v25 := Try.zeroValue246
  t39 := Try.underlying223
  a39 := Try.isAgg223
  z39 := Try.sizeOf223
  v39 := Try.zeroValue223
  t45 := Try.underlying266
  a45 := Try.isAgg266
  z45 := Try.sizeOf266
  v45 := Try.zeroValue266
  t46 := Try.underlying267
  a46 := Try.isAgg267
  z46 := Try.sizeOf267
  v46 := Try.zeroValue267
  t50 := Try.underlying136
  a50 := Try.isAgg136
  z50 := Try.sizeOf136
  v50 := Try.zeroValue136
  t53 := Try.underlying273
  a53 := Try.isAgg273
  z53 := Try.sizeOf273
  v53 := Try.zeroValue273
  t55 := Try.underlying213
  a55 := Try.isAgg213
  z55 := Try.sizeOf213
  v55 := Try.zeroValue213
  t66 := Try.underlying278
  a66 := Try.isAgg278
  z66 := Try.sizeOf278
  v66 := Try.zeroValue278
  t70 := Try.underlying282
  a70 := Try.isAgg282
  z70 := Try.sizeOf282
  v70 := Try.zeroValue282
  t76 := Try.underlying284
  a76 := Try.isAgg284
  z76 := Try.sizeOf284
  v76 := Try.zeroValue284
  t77 := Try.underlying285
  a77 := Try.isAgg285
  z77 := Try.sizeOf285
  v77 := Try.zeroValue285 }
/-- A function that only reckons on one value. -/
theorem fun1_of_calls1 {P : Program} {f : FuncId} {a v : Value} (hc : Callable P f) (hv : v.oneCell' = true) (h : ∀ w, Calls P f #[a] w fun e w' => e = .returned v ∧ w' = w) : Fun1 P f [.one (.lit a)] (.one (.lit v)) := by
  refine ⟨hc, by simp [T.nb, AV.nb], fun w I vs hI hargs => ?_⟩
  obtain ⟨vs⟩ := vs
  match vs, hargs with
  | [x], hargs =>
    have hx := hargs.1.1
    cases hx
    refine (h w).mono ?_
    rintro e w' ⟨rfl, rfl⟩
    exact ⟨v, fun _ => False, rfl, ⟨.plain rfl (.lit v) (fun _ h => h), hv⟩, fun _ h => h.elim, Bel.refl _ _⟩
theorem len0_c : Fun1 Try.prog 238 [.one (.lit (.int .u64 0))] (.one (.lit (.int .i64 0))) := by
  refine fun1_of_calls1 ⟨_, Try.func238, rfl, by kernel_rfl⟩ rfl fun w => ?_
  have h := Any.bits_Len (SlLaysF0.n15.bits (P := Try.prog) (ρ := snapSortLay_ren) { snapSortLay with }) 0 w (by omega) (by omega)
  exact h
theorem ins0_c : Fun1 Try.prog 244 [.one (.row true 3 []), .one (.lit (.int .i64 0)), .one (.lit (.int .i64 0)), .one (.fn 225 [])] (.tup []) := by
  refine fun1_of_vc (E := tbO244) (tbF_ok _) mix (fn := Try.f244) Try.func244 rfl (by kernel_rfl) (by kernel_rfl) (by simp [Try.f244]) (by rfl) ?_
  (conv => whnf)
  refine ⟨1, by rw [← wrap64_id] <;> omega, ?_⟩; (conv => whnf)
  refine ⟨LG (fun _ : Unit => True) (fun _ => 0) (fun _ => AS.of [(0, .one (.row true 3 [])), (1, .one (.lit (.int .i64 0))), (2, .one (.lit (.int .i64 0))), (3, .one (.fn 225 [])), (8, .one (.lit (.int .i64 1)))] []), lg_init () trivial (weak_of (by repeat (first | refine all_cons (by first | rfl | exact eq_int rfl (by first | rfl | omega | (simp; done) | (simp; omega)) | exact eq_loc rfl (by first | rfl | omega | (simp; done) | (simp; omega)) | exact eq_bool rfl (by simp_all)) ?_ | exact all_nil)) (by repeat (first | refine all_cons (by first | rfl | exact eq_int rfl (by first | rfl | omega | (simp; done) | (simp; omega)) | exact eq_loc rfl (by first | rfl | omega | (simp; done) | (simp; omega)) | exact eq_bool rfl (by simp_all)) ?_ | exact all_nil)) rfl rfl), ?_⟩
  rintro σ k ⟨_, _, rfl, rfl⟩
  refine ⟨_, Weak.refl _, ?_⟩
  (conv => whnf)
  exact trivial
theorem pdq0_c : Fun1 Try.prog 237 [.one (.row true 3 []), .one (.lit (.int .i64 0)), .one (.lit (.int .i64 0)), .one (.lit (.int .i64 0)), .one (.fn 225 [])] (.tup []) := by
  refine fun1_of_vc tb_ok mix (fn := Try.f237) Try.func237 rfl (by kernel_rfl) (by kernel_rfl) (by simp [Try.f237]) (by rfl) ?_
  (conv => whnf)
  refine ⟨LG (fun _ : Unit => True) (fun _ => 0) (fun _ => AS.of [(0, .one (.row true 3 [])), (1, .one (.lit (.int .i64 0))), (2, .one (.lit (.int .i64 0))), (3, .one (.lit (.int .i64 0))), (4, .one (.fn 225 []))] []), lg_init () trivial (weak_of (by repeat (first | refine all_cons (by first | rfl | exact eq_int rfl (by first | rfl | omega | (simp; done) | (simp; omega)) | exact eq_loc rfl (by first | rfl | omega | (simp; done) | (simp; omega)) | exact eq_bool rfl (by simp_all)) ?_ | exact all_nil)) (by repeat (first | refine all_cons (by first | rfl | exact eq_int rfl (by first | rfl | omega | (simp; done) | (simp; omega)) | exact eq_loc rfl (by first | rfl | omega | (simp; done) | (simp; omega)) | exact eq_bool rfl (by simp_all)) ?_ | exact all_nil)) rfl rfl), ?_⟩
  rintro σ k ⟨_, _, rfl, rfl⟩
  refine ⟨_, Weak.refl _, ?_⟩
  (conv => whnf)
  refine ⟨0, by rw [← wrap64_id] <;> omega, ?_⟩; (conv => whnf)
  refine ⟨_, _, ins0_c, (by repeat' (first | exact lends_nil | exact lend_dead | apply lends_cons | apply lend_agg | apply lend_one | exact all2_nil | apply all2_cons | exact la_lit rfl | exact la_int (by first | rfl | omega) | exact la_row rfl rfl | exact la_loc rfl rfl rfl (by first | rfl | simp [mkL_length]) (by first | rfl | simp) | exact la_nil rfl | apply la_fn rfl | exact lend_same rfl rfl | exact lend_bor rfl rfl)), ?_⟩; (conv => whnf)
  exact trivial
theorem sort0_c : Fun1 Try.prog 224 [.one (.row true 3 []), .one (.fn 225 [])] (.tup []) := by
  refine fun1_of_vc tb_ok mix (fn := Try.f224) Try.func224 rfl (by kernel_rfl) (by kernel_rfl) (by simp [Try.f224]) (by rfl) ?_
  (conv => whnf)
  refine ⟨0, by decide, ?_⟩; (conv => whnf)
  refine ⟨_, _, len0_c, (by repeat' (first | exact lends_nil | exact lend_dead | apply lends_cons | apply lend_agg | apply lend_one | exact all2_nil | apply all2_cons | exact la_lit rfl | exact la_int (by first | rfl | omega) | exact la_row rfl rfl | exact la_loc rfl rfl rfl (by first | rfl | simp [mkL_length]) (by first | rfl | simp) | exact la_nil rfl | apply la_fn rfl | exact lend_same rfl rfl | exact lend_bor rfl rfl)), ?_⟩; (conv => whnf)
  refine ⟨_, _, pdq0_c, (by repeat' (first | exact lends_nil | exact lend_dead | apply lends_cons | apply lend_agg | apply lend_one | exact all2_nil | apply all2_cons | exact la_lit rfl | exact la_int (by first | rfl | omega) | exact la_row rfl rfl | exact la_loc rfl rfl rfl (by first | rfl | simp [mkL_length]) (by first | rfl | simp) | exact la_nil rfl | apply la_fn rfl | exact lend_same rfl rfl | exact lend_bor rfl rfl)), ?_⟩; (conv => whnf)
  exact trivial
instance : Inhabited DSnap := ⟨⟨.empty, 0, .empty⟩⟩
def snapV (x : DSnap) : List Value := [.string x.name, .int .i64 x.day, .string x.root]
theorem snapV_enc (l : List DSnap) : l.map DSnap.enc = l.map fun a => (snapV a).map AV.lit := rfl
theorem ltS_eq (x y : DSnap) : Go.Proofs.ltOf cmpS x y = newer x y := by
  unfold Go.Proofs.ltOf
  rw [Bool.eq_iff_iff, decide_eq_true_eq]
  exact cmpS_lt x y
theorem newer_swo : Go.Sort.SWO (Go.Proofs.ltOf cmpS) where
  irrefl x := by rw [ltS_eq]; exact newer_irrefl x
  trans x y z h k := by rw [ltS_eq] at *; exact newer_trans h k
  ntrans x y z h k := by
    rw [ltS_eq] at *
    rw [Bool.eq_false_iff, Ne, newer_iff] at *
    rintro (q | ⟨q, q'⟩)
    · rcases Int.lt_trichotomy x.day y.day with e | e | e
      · exact k (.inl (by omega))
      · exact k (.inl (by omega))
      · exact h (.inl e)
    · rcases Int.lt_trichotomy x.day y.day with e | e | e
      · exact k (.inl (by omega))
      · rcases bLt_tri y.name x.name with t | t | t
        · exact h (.inr ⟨e, t⟩)
        · exact k (.inr ⟨by omega, by rw [t]; exact q'⟩)
        · exact k (.inr ⟨by omega, bLt_trans q' t⟩)
      · exact h (.inl e)
theorem snapSort_k : SortK Try.prog 224 225 3 snapV (Go.Proofs.ltOf cmpS) := by
  refine ⟨⟨_, Try.func224, rfl, by kernel_rfl⟩, sort0_c, fun blk cap d w hH hblk hsz => ?_⟩
  have eg : ∀ args w, (callFunc 225 args).run Try.prog w = .ok (.enter 225 args) w := enters_of Try.func225 (by kernel_rfl) rfl
  exact Go.Proofs.AnyQ.slices_SortFunc snapSortLay 3 Try.isAgg119 Try.sizeOf119 snapV (fun _ => rfl) (fun x v hv => by simp [snapV] at hv; rcases hv with rfl | rfl | rfl <;> rfl) cmpS newer_swo 225 #[] blk 0 cap d w eg
    (cmpLays_of (fun x => rfl) (fun x y => keptCmp_c x y) blk 0 d.size w) hH hblk hsz
theorem snapSort_ok {σ : AS} {s : Nat} {l : List DSnap} {x : Operand} (ha : Apart l) (hx : σ.get x = .one (.loc s 0 l.length)) (hs : σ.mem s = some (.row true 3 (l.map DSnap.enc))) (hlen : l.length < 4611686018427387904) :
    CallOk Try.prog 224 [x, .func 225] σ (σ.set s (.row true 3 ((newest l).map DSnap.enc))) (.tup []) :=
  sort_ok (enc := snapV) snapSort_k (fun _ => rfl) (by decide) (fun _ => rfl) hx hs hlen fun d hp hd => newest_unique ha hp fun i j hi hj => by
    have := hd i j hi hj
    rwa [ltS_eq] at this
end Go.Proofs.Ytlijeincckbdaaa
namespace Go.Proofs.Ytlijeincckbdaaa
open Go.RowKit
set_option linter.unusedSimpArgs false
set_option linter.unusedVariables false
set_option maxRecDepth 100000
set_option maxHeartbeats 4000000
theorem gtr_eq (a b : ByteArray) : (!(sless a b || decide (a = b))) = bLt b a := by
  rw [Bool.eq_iff_iff]
  simp only [Bool.not_eq_true', Bool.or_eq_false_iff, decide_eq_false_iff_not]
  constructor
  · rintro ⟨h1, h2⟩
    rcases bLt_tri a b with h | h | h
    · rw [show sless a b = bLt a b from rfl, h] at h1; cases h1
    · exact absurd h h2
    · exact h
  · intro h
    refine ⟨?_, ?_⟩
    · rw [show sless a b = bLt a b from rfl, Bool.eq_false_iff]
      intro q
      have := bLt_trans h q
      rw [bLt_irrefl] at this; cases this
    · rintro rfl
      rw [bLt_irrefl] at h; cases h
theorem insN_len (l : List DSnap) (s : DSnap) : (insN l s).length = l.length + 1 := by
  have := (insN_perm l s).length_eq
  simpa using this
theorem newest_take_len (l : List DSnap) : ∀ i, i ≤ l.length → (newest (l.take i)).length = i
  | 0, _ => by simp [newest]
  | i + 1, h => by rw [newest_succ (by omega), insN_len, newest_take_len l i (by omega)]
theorem l09Put_c (l : List ByteArray) (hl : l.length ≤ 4294967295) (t : ByteArray) (hne : l[putK l t]? ≠ some t) : Fun1 Try.prog 207 [.one (.row true 1 (l.map eStr)), .one (.lit (.string t))] (.one (.row true 1 ((putN l t).map eStr))) := by
  refine fun1_of_vc tb_ok mix (fn := Try.f207) Try.func207 rfl (by kernel_rfl) (by kernel_rfl) (by simp [Try.f207]) (by show AV.nb (4 + 1) _ = true; exact nb_map (n := 4) (fun y => eStr_nbn 4 y) _) ?_
  (conv => whnf)
  refine ⟨LG (fun i : Nat => i ≤ l.length ∧ ∀ j (h : j < l.length), j < i → bLt l[j] t = true) (fun i => l.length - i) (fun i => AS.of [(0, .one (.row true 1 (l.map eStr))), (1, .one (.lit (.string t))), (5, .one (.lit (.int .i64 (i : Nat))))] []), lg_init 0 ⟨by omega, fun t _ h => by omega⟩ (weak_of (by repeat (first | refine all_cons (by first | rfl | exact eq_int rfl (by first | rfl | omega | (simp; done) | (simp; omega)) | exact eq_loc rfl (by first | rfl | omega | (simp; done) | (simp; omega)) | exact eq_bool rfl (by simp_all)) ?_ | exact all_nil)) (by repeat (first | refine all_cons (by first | rfl | exact eq_int rfl (by first | rfl | omega | (simp; done) | (simp; omega)) | exact eq_loc rfl (by first | rfl | omega | (simp; done) | (simp; omega)) | exact eq_bool rfl (by simp_all)) ?_ | exact all_nil)) rfl rfl), ?_⟩
  rintro σ k ⟨i, ⟨hi, hc⟩, rfl, rfl⟩
  refine ⟨_, Weak.refl _, ?_⟩
  (conv => whnf)
  have out : ∀ (hk : putK l t = i), putN l t = l.take i ++ [t] ++ l.drop i := fun hk => by unfold putN; rw [if_neg hne, hk]
  (split <;> rename_i h <;> (try simp only [decide_eq_true_eq, decide_eq_false_iff_not, Bool.not_eq_true', Bool.not_eq_false', Bool.not_eq_true, Bool.not_eq_false, List.length_map] at h) <;> conv => whnf)
  · have hlt : i < l.length := by omega
    refine ⟨i, rfl, _, at_map hlt, ?_⟩; (conv => whnf)
    (split <;> rename_i h2 <;> (try simp only [decide_eq_true_eq, decide_eq_false_iff_not, Bool.not_eq_true', Bool.not_eq_false', Bool.not_eq_true, Bool.not_eq_false, List.length_map] at h2) <;> conv => whnf)
    · (refine ⟨((i + 1 : Nat) : Int), by rw [← wrap64_id] <;> omega, ?_⟩; conv => whnf)
      exact lg_back (i + 1) ⟨by omega, fun j h hj => by
        by_cases e : j = i
        · subst e; exact h2
        · exact hc j h (by omega)⟩ (by (try dsimp only); omega) (weak_of (by repeat (first | refine all_cons (by first | rfl | exact eq_int rfl (by first | rfl | omega | (simp; done) | (simp; omega)) | exact eq_loc rfl (by first | rfl | omega | (simp; done) | (simp; omega)) | exact eq_bool rfl (by simp_all)) ?_ | exact all_nil)) (by repeat (first | refine all_cons (by first | rfl | exact eq_int rfl (by first | rfl | omega | (simp; done) | (simp; omega)) | exact eq_loc rfl (by first | rfl | omega | (simp; done) | (simp; omega)) | exact eq_bool rfl (by simp_all)) ?_ | exact all_nil)) rfl rfl)
    · have hk : putK l t = i := tw_len (p := fun x => bLt x t) hc hi fun _ => by show sless _ _ = false; simpa using h2
      (split <;> rename_i h3 <;> (try simp only [decide_eq_true_eq, decide_eq_false_iff_not, Bool.not_eq_true', Bool.not_eq_false', Bool.not_eq_true, Bool.not_eq_false, List.length_map] at h3) <;> conv => whnf)
      · refine ⟨i, rfl, _, at_map hlt, ?_⟩; (conv => whnf)
        (split <;> rename_i h4 <;> (try simp only [decide_eq_true_eq, decide_eq_false_iff_not, Bool.not_eq_true', Bool.not_eq_false', Bool.not_eq_true, Bool.not_eq_false, List.length_map] at h4) <;> conv => whnf)
        · exact absurd (by rw [hk, List.getElem?_eq_getElem hlt, h4]) hne
        · have he := out hk
          refine ⟨by decide, by simp, by simp; omega, (l.take i).map eStr, by simp [List.map_take], ?_⟩; (conv => whnf)
          refine ⟨true, _, ⟨rfl, rfl, rfl⟩, ?_⟩; (conv => whnf)
          refine ⟨_, laid_map (f := eStr) (fun _ => rfl) (l.take i), rfl, rfl, rfl, by simp [maxLen, chunk]; omega, by simp [chunk]; omega, ?_⟩; (conv => whnf)
          refine ⟨true, [eStr t], ⟨rfl, by simp [chunk], rfl, by simp [chunk]; rfl⟩, ?_⟩; (conv => whnf)
          refine ⟨[eStr t], laid_map (f := eStr) (fun _ => rfl) [t], rfl, by simp [chunk], rfl, by simp [maxLen, chunk]; omega, by simp [chunk]; omega, ?_⟩; (conv => whnf)
          refine ⟨by simp, by simp; omega, by simp, (l.drop i).map eStr, by simp only [List.map_drop]; exact (List.take_of_length_le (by simp)).symm, ?_⟩; (conv => whnf)
          refine ⟨true, _, ⟨rfl, rfl, rfl⟩, ?_⟩; (conv => whnf)
          refine ⟨_, laid_map (f := eStr) (fun _ => rfl) (l.drop i), rfl, by simp [chunk], rfl, by simp [maxLen, chunk]; omega, by simp [chunk]; omega, ?_⟩; (conv => whnf)
          exact ⟨close_row rfl rfl (by simp [chunk]; omega) (by rw [he]; simp [chunk]), trivial⟩
      · omega
  · have hk : putK l t = i := tw_len (p := fun x => bLt x t) hc hi fun h => by omega
    have he := out hk
    (split <;> rename_i h3 <;> (try simp only [decide_eq_true_eq, decide_eq_false_iff_not, Bool.not_eq_true', Bool.not_eq_false', Bool.not_eq_true, Bool.not_eq_false, List.length_map] at h3) <;> conv => whnf)
    · omega
    refine ⟨by decide, by simp, by simp; omega, (l.take i).map eStr, by simp [List.map_take], ?_⟩; (conv => whnf)
    refine ⟨true, _, ⟨rfl, rfl, rfl⟩, ?_⟩; (conv => whnf)
    refine ⟨_, laid_map (f := eStr) (fun _ => rfl) (l.take i), rfl, rfl, rfl, by simp [maxLen, chunk]; omega, by simp [chunk]; omega, ?_⟩; (conv => whnf)
    refine ⟨true, [eStr t], ⟨rfl, by simp [chunk], rfl, by simp [chunk]; rfl⟩, ?_⟩; (conv => whnf)
    refine ⟨[eStr t], laid_map (f := eStr) (fun _ => rfl) [t], rfl, by simp [chunk], rfl, by simp [maxLen, chunk]; omega, by simp [chunk]; omega, ?_⟩; (conv => whnf)
    refine ⟨by simp, by simp; omega, by simp, (l.drop i).map eStr, by simp only [List.map_drop]; exact (List.take_of_length_le (by simp)).symm, ?_⟩; (conv => whnf)
    refine ⟨true, _, ⟨rfl, rfl, rfl⟩, ?_⟩; (conv => whnf)
    refine ⟨_, laid_map (f := eStr) (fun _ => rfl) (l.drop i), rfl, by simp [chunk], rfl, by simp [maxLen, chunk]; omega, by simp [chunk]; omega, ?_⟩; (conv => whnf)
    exact ⟨close_row rfl rfl (by simp [chunk]; omega) (by rw [he]; simp [chunk]), trivial⟩
theorem l09Put_i (l : List ByteArray) (hl : l.length ≤ 4294967295) (t : ByteArray) (he : l[putK l t]? = some t) : FunId Try.prog 207 [.one (.row true 1 (l.map eStr)), .one (.lit (.string t))] 0 := by
  refine id_of_vc tb_ok 0 mix (fn := Try.f207) Try.func207 rfl (by kernel_rfl) (by kernel_rfl) (by simp [Try.f207]) rfl fun u hu => ?_
  obtain ⟨A, cap, h0⟩ := hu 0 true 1 (l.map eStr) rfl
  have e1 : litTs u 0 [T.one (.row true 1 (l.map eStr)), T.one (.lit (.string t))] = [T.one (.lit (.slice A l.length cap)), T.one (.lit (.string t))] := by simp [litTs, litT, litA, h0]
  have e2 : parM u [T.one (.row true 1 (l.map eStr)), T.one (.lit (.string t))] = memN [(.slice A l.length cap, .row true 1 (l.map eStr))] := by
    funext s
    match s with
    | 0 => simp [parM, memN, flatTs, flatT, h0]
    | 1 => simp [parM, memN, flatTs, flatT]
    | s + 2 => simp [parM, memN, flatTs, flatT]
  rw [e1, e2, h0, List.length_map]
  clear e1 e2 hu h0
  (conv => whnf)
  refine ⟨LG (fun i : Nat => i ≤ l.length ∧ ∀ j (h : j < l.length), j < i → bLt l[j] t = true) (fun i => l.length - i) (fun i => AS.of [(0, .one (.lit (.slice A l.length cap))), (1, .one (.lit (.string t))), (5, .one (.lit (.int .i64 (i : Nat))))] [(0, .par (.slice A l.length cap) (.row true 1 (l.map eStr)))]), lg_init 0 ⟨by omega, fun t _ h => by omega⟩ (weak_of (by repeat (first | refine all_cons (by first | rfl | exact eq_int rfl (by first | rfl | omega | (simp; done) | (simp; omega)) | exact eq_loc rfl (by first | rfl | omega | (simp; done) | (simp; omega)) | exact eq_bool rfl (by simp_all)) ?_ | exact all_nil)) (by repeat (first | refine all_cons (by first | rfl | exact eq_int rfl (by first | rfl | omega | (simp; done) | (simp; omega)) | exact eq_loc rfl (by first | rfl | omega | (simp; done) | (simp; omega)) | exact eq_bool rfl (by simp_all)) ?_ | exact all_nil)) rfl rfl), ?_⟩
  rintro σ k ⟨i, ⟨hi, hc⟩, rfl, rfl⟩
  refine ⟨_, Weak.refl _, ?_⟩
  (conv => whnf)
  (split <;> rename_i h <;> (try simp only [decide_eq_true_eq, decide_eq_false_iff_not, Bool.not_eq_true', Bool.not_eq_false', Bool.not_eq_true, Bool.not_eq_false, List.length_map] at h) <;> conv => whnf)
  · have hlt : i < l.length := by omega
    refine ⟨0, true, _, rfl, i, rfl, _, at_map hlt, ?_⟩; (conv => whnf)
    (split <;> rename_i h2 <;> (try simp only [decide_eq_true_eq, decide_eq_false_iff_not, Bool.not_eq_true', Bool.not_eq_false', Bool.not_eq_true, Bool.not_eq_false, List.length_map] at h2) <;> conv => whnf)
    · (refine ⟨((i + 1 : Nat) : Int), by rw [← wrap64_id] <;> omega, ?_⟩; conv => whnf)
      exact lg_back (i + 1) ⟨by omega, fun j h hj => by
        by_cases e : j = i
        · subst e; exact h2
        · exact hc j h (by omega)⟩ (by (try dsimp only); omega) (weak_of (by repeat (first | refine all_cons (by first | rfl | exact eq_int rfl (by first | rfl | omega | (simp; done) | (simp; omega)) | exact eq_loc rfl (by first | rfl | omega | (simp; done) | (simp; omega)) | exact eq_bool rfl (by simp_all)) ?_ | exact all_nil)) (by repeat (first | refine all_cons (by first | rfl | exact eq_int rfl (by first | rfl | omega | (simp; done) | (simp; omega)) | exact eq_loc rfl (by first | rfl | omega | (simp; done) | (simp; omega)) | exact eq_bool rfl (by simp_all)) ?_ | exact all_nil)) rfl rfl)
    · have hk : putK l t = i := tw_len (p := fun x => bLt x t) hc hi fun _ => by show sless _ _ = false; simpa using h2
      rw [hk, List.getElem?_eq_getElem hlt] at he
      (split <;> rename_i h3 <;> (try simp only [decide_eq_true_eq, decide_eq_false_iff_not, Bool.not_eq_true', Bool.not_eq_false', Bool.not_eq_true, Bool.not_eq_false, List.length_map] at h3) <;> conv => whnf)
      · refine ⟨0, true, _, rfl, i, rfl, _, at_map hlt, ?_⟩; (conv => whnf)
        (split <;> rename_i h4 <;> (try simp only [decide_eq_true_eq, decide_eq_false_iff_not, Bool.not_eq_true', Bool.not_eq_false', Bool.not_eq_true, Bool.not_eq_false, List.length_map] at h4) <;> conv => whnf)
        · exact ⟨close_lit, trivial⟩
        · exact absurd (Option.some.inj he) h4
      · omega
  · have hk : putK l t = i := tw_len (p := fun x => bLt x t) hc hi fun h => by omega
    rw [hk, List.getElem?_eq_none (by omega)] at he
    cases he
theorem l07In_c (l : List ByteArray) (hl : l.length ≤ 4294967295) (t : ByteArray) : Fun1 Try.prog 155 [.one (.row true 1 (l.map eStr)), .one (.lit (.string t))] (.one (.lit (.bool (decide (t ∈ l))))) := by
  refine fun1_of_vc tb_ok mix (fn := Try.f155) Try.func155 rfl (by kernel_rfl) (by kernel_rfl) (by simp [Try.f155]) (by rfl) ?_
  (conv => whnf)
  refine ⟨LG (fun i : Nat => i ≤ l.length ∧ ∀ j (h : j < l.length), j < i → l[j] ≠ t) (fun i => l.length - i) (fun i => AS.of [(0, .one (.row true 1 (l.map eStr))), (1, .one (.lit (.string t))), (5, .one (.lit (.int .i64 (i : Nat))))] []), lg_init 0 ⟨by omega, fun t _ h => by omega⟩ (weak_of (by repeat (first | refine all_cons (by first | rfl | exact eq_int rfl (by first | rfl | omega | (simp; done) | (simp; omega)) | exact eq_loc rfl (by first | rfl | omega | (simp; done) | (simp; omega)) | exact eq_bool rfl (by simp_all)) ?_ | exact all_nil)) (by repeat (first | refine all_cons (by first | rfl | exact eq_int rfl (by first | rfl | omega | (simp; done) | (simp; omega)) | exact eq_loc rfl (by first | rfl | omega | (simp; done) | (simp; omega)) | exact eq_bool rfl (by simp_all)) ?_ | exact all_nil)) rfl rfl), ?_⟩
  rintro σ k ⟨i, ⟨hi, hc⟩, rfl, rfl⟩
  refine ⟨_, Weak.refl _, ?_⟩
  (conv => whnf)
  (split <;> rename_i h <;> (try simp only [decide_eq_true_eq, decide_eq_false_iff_not, Bool.not_eq_true', Bool.not_eq_false', Bool.not_eq_true, Bool.not_eq_false, List.length_map] at h) <;> conv => whnf)
  · have hlt : i < l.length := by omega
    refine ⟨i, rfl, _, at_map hlt, ?_⟩; (conv => whnf)
    (split <;> rename_i h2 <;> (try simp only [decide_eq_true_eq, decide_eq_false_iff_not, Bool.not_eq_true', Bool.not_eq_false', Bool.not_eq_true, Bool.not_eq_false, List.length_map] at h2) <;> conv => whnf)
    · exact ⟨close_bool (decide_eq_true (by rw [← h2]; exact List.getElem_mem hlt)), trivial⟩
    · (refine ⟨((i + 1 : Nat) : Int), by rw [← wrap64_id] <;> omega, ?_⟩; conv => whnf)
      exact lg_back (i + 1) ⟨by omega, fun j h hj => by
        by_cases e : j = i
        · subst e; exact h2
        · exact hc j h (by omega)⟩ (by (try dsimp only); omega) (weak_of (by repeat (first | refine all_cons (by first | rfl | exact eq_int rfl (by first | rfl | omega | (simp; done) | (simp; omega)) | exact eq_loc rfl (by first | rfl | omega | (simp; done) | (simp; omega)) | exact eq_bool rfl (by simp_all)) ?_ | exact all_nil)) (by repeat (first | refine all_cons (by first | rfl | exact eq_int rfl (by first | rfl | omega | (simp; done) | (simp; omega)) | exact eq_loc rfl (by first | rfl | omega | (simp; done) | (simp; omega)) | exact eq_bool rfl (by simp_all)) ?_ | exact all_nil)) rfl rfl)
  · have : i = l.length := by omega
    subst this
    refine ⟨close_bool (decide_eq_false fun hm => ?_), trivial⟩
    obtain ⟨j, hj, e⟩ := List.mem_iff_getElem.1 hm
    exact hc j hj hj e
theorem l13Newest_c (l : List DSnap) (hl : l.length ≤ 4294967295) : Fun1 Try.prog 206 [.one (.row true 3 (l.map DSnap.enc))] (.one (.row true 3 ((newest l).map DSnap.enc))) := by
  refine fun1_of_vc tb_ok mix (fn := Try.f206) Try.func206 rfl (by kernel_rfl) (by kernel_rfl) (by simp [Try.f206]) (by show AV.nb (4 + 1) _ = true; exact nb_map (n := 4) (fun y => DSnap.enc_nbn 4 y) _) ?_
  (conv => whnf)
  refine ⟨LG (fun i : Nat => i ≤ l.length) (fun i => l.length - i) (fun i => AS.of [(0, .one (.row true 3 (l.map DSnap.enc))), (3, .one (.loc 112 0 i)), (4, .one (.lit (.int .i64 (i : Nat))))] [(112, .row true 3 ((newest (l.take i)).map DSnap.enc))]), lg_init 0 (by omega) (weak_of (by repeat (first | refine all_cons (by first | rfl | exact eq_int rfl (by first | rfl | omega | (simp; done) | (simp; omega)) | exact eq_loc rfl (by first | rfl | omega | (simp; done) | (simp; omega)) | exact eq_bool rfl (by simp_all)) ?_ | exact all_nil)) (by repeat (first | refine all_cons (by first | rfl | exact eq_int rfl (by first | rfl | omega | (simp; done) | (simp; omega)) | exact eq_loc rfl (by first | rfl | omega | (simp; done) | (simp; omega)) | exact eq_bool rfl (by simp_all)) ?_ | exact all_nil)) rfl rfl), ?_⟩
  rintro σ k ⟨i, hi, rfl, rfl⟩
  refine ⟨_, Weak.refl _, ?_⟩
  (conv => whnf)
  (split <;> rename_i h <;> (try simp only [decide_eq_true_eq, decide_eq_false_iff_not, Bool.not_eq_true', Bool.not_eq_false', Bool.not_eq_true, Bool.not_eq_false, List.length_map] at h) <;> conv => whnf)
  · have hlt : i < l.length := by omega
    have hnl := newest_take_len l i (by omega)
    have hsucc := newest_succ hlt
    refine ⟨LG (fun k : Nat => k ≤ (newest (l.take i)).length ∧ ∀ j (h : j < (newest (l.take i)).length), j < k → newer (newest (l.take i))[j] l[i] = true) (fun k => (newest (l.take i)).length - k) (fun k => AS.of [(0, .one (.row true 3 (l.map DSnap.enc))), (3, .one (.loc 112 0 i)), (4, .one (.lit (.int .i64 (i : Nat)))), (5, .one (.lit (.int .i64 (k : Nat))))] [(112, .row true 3 ((newest (l.take i)).map DSnap.enc))]), lg_init 0 ⟨by omega, fun t _ h => by omega⟩ (weak_of (by repeat (first | refine all_cons (by first | rfl | exact eq_int rfl (by first | rfl | omega | (simp; done) | (simp; omega)) | exact eq_loc rfl (by first | rfl | omega | (simp; done) | (simp; omega)) | exact eq_bool rfl (by simp_all)) ?_ | exact all_nil)) (by repeat (first | refine all_cons (by first | rfl | exact eq_int rfl (by first | rfl | omega | (simp; done) | (simp; omega)) | exact eq_loc rfl (by first | rfl | omega | (simp; done) | (simp; omega)) | exact eq_bool rfl (by simp_all)) ?_ | exact all_nil)) rfl rfl), ?_⟩
    rintro σ m ⟨k, ⟨hk, hc⟩, rfl, rfl⟩
    generalize newest (l.take i) = N at hnl hsucc hk hc ⊢
    refine ⟨_, Weak.refl _, ?_⟩
    (conv => whnf)
    have stop : (∀ h : k < N.length, newer N[k] l[i] = false) → insK N l[i] = k := fun h => tw_len (p := fun x => newer x l[i]) hc hk h
    have more : (∀ h : k < N.length, newer N[k] l[i] = true) → ∀ j (h : j < N.length), j < k + 1 → newer N[j] l[i] = true := fun hn j h hj => by
      by_cases e : j = k
      · subst e; exact hn h
      · exact hc j h (by omega)
    (split <;> rename_i h1 <;> (try simp only [decide_eq_true_eq, decide_eq_false_iff_not, Bool.not_eq_true', Bool.not_eq_false', Bool.not_eq_true, Bool.not_eq_false, List.length_map] at h1) <;> conv => whnf)
    · have hkn : k < N.length := by omega
      refine ⟨k, rfl, by omega, ?_⟩; (conv => whnf)
      refine ⟨_, at_map0 hkn, ?_⟩; (conv => whnf)
      refine ⟨i, rfl, _, at_map hlt, ?_⟩; (conv => whnf)
      (split <;> rename_i h2 <;> (try simp only [decide_eq_true_eq, decide_eq_false_iff_not, Bool.not_eq_true', Bool.not_eq_false', Bool.not_eq_true, Bool.not_eq_false, List.length_map] at h2) <;> conv => whnf)
      · skip
        refine ⟨((k + 1 : Nat) : Int), by rw [← wrap64_id] <;> omega, ?_⟩; (conv => whnf)
        exact lg_back (k + 1) ⟨by omega, more fun _ => (newer_iff _ _).2 (.inl h2)⟩ (by (try dsimp only); omega) (weak_of (by repeat (first | refine all_cons (by first | rfl | exact eq_int rfl (by first | rfl | omega | (simp; done) | (simp; omega)) | exact eq_loc rfl (by first | rfl | omega | (simp; done) | (simp; omega)) | exact eq_bool rfl (by simp_all)) ?_ | exact all_nil)) (by repeat (first | refine all_cons (by first | rfl | exact eq_int rfl (by first | rfl | omega | (simp; done) | (simp; omega)) | exact eq_loc rfl (by first | rfl | omega | (simp; done) | (simp; omega)) | exact eq_bool rfl (by simp_all)) ?_ | exact all_nil)) rfl rfl)
      · refine ⟨k, rfl, by omega, ?_⟩; (conv => whnf)
        refine ⟨_, at_map0 hkn, ?_⟩; (conv => whnf)
        refine ⟨i, rfl, _, at_map hlt, ?_⟩; (conv => whnf)
        (split <;> rename_i h3 <;> (try simp only [decide_eq_true_eq, decide_eq_false_iff_not, Bool.not_eq_true', Bool.not_eq_false', Bool.not_eq_true, Bool.not_eq_false, List.length_map] at h3) <;> conv => whnf)
        · refine ⟨k, rfl, by omega, ?_⟩; (conv => whnf)
          refine ⟨_, at_map0 hkn, ?_⟩; (conv => whnf)
          refine ⟨i, rfl, _, at_map hlt, ?_⟩; (conv => whnf)
          (split <;> rename_i h4 <;> (try simp only [decide_eq_true_eq, decide_eq_false_iff_not, Bool.not_eq_true', Bool.not_eq_false', Bool.not_eq_true, Bool.not_eq_false, List.length_map] at h4) <;> conv => whnf)
          · have h5 : bLt l[i].name N[k].name = true := by rw [← gtr_eq, h4]; rfl
            refine ⟨((k + 1 : Nat) : Int), by rw [← wrap64_id] <;> omega, ?_⟩; (conv => whnf)
            exact lg_back (k + 1) ⟨by omega, more fun _ => (newer_iff _ _).2 (.inr ⟨h3, h5⟩)⟩ (by (try dsimp only); omega) (weak_of (by repeat (first | refine all_cons (by first | rfl | exact eq_int rfl (by first | rfl | omega | (simp; done) | (simp; omega)) | exact eq_loc rfl (by first | rfl | omega | (simp; done) | (simp; omega)) | exact eq_bool rfl (by simp_all)) ?_ | exact all_nil)) (by repeat (first | refine all_cons (by first | rfl | exact eq_int rfl (by first | rfl | omega | (simp; done) | (simp; omega)) | exact eq_loc rfl (by first | rfl | omega | (simp; done) | (simp; omega)) | exact eq_bool rfl (by simp_all)) ?_ | exact all_nil)) rfl rfl)
          · have h5 : bLt l[i].name N[k].name = false := by rw [← gtr_eq, h4]; rfl
            have hk2 : insK N l[i] = k := stop fun _ => by rw [Bool.eq_false_iff, Ne, newer_iff]; rintro (q | ⟨_, q⟩); exact h2 q; rw [h5] at q; cases q
            have he : newest (l.take (i + 1)) = N.take k ++ [l[i]] ++ N.drop k := by rw [hsucc, insN, hk2]
            refine ⟨by simp, by first | (simp; done) | (simp; omega), by first | (simp; done) | (simp; omega), 0, k, by simp, by simp, ?_⟩; (conv => whnf)
            refine ⟨true, (N.take k).map DSnap.enc, ⟨rfl, by simp; omega, rfl, by simp [List.map_take]⟩, ?_⟩; (conv => whnf)
            refine ⟨_, laid_map (f := DSnap.enc) (fun _ => rfl) (N.take k), rfl, rfl, rfl, by simp [maxLen, chunk]; omega, by simp [chunk]; omega, ?_⟩; (conv => whnf)
            refine ⟨i, rfl, _, at_map hlt, ?_⟩; (conv => whnf)
            refine ⟨true, [l[i].enc], ⟨rfl, by simp [chunk], rfl, by simp [chunk]; rfl⟩, ?_⟩; (conv => whnf)
            refine ⟨[l[i].enc], laid_map (f := DSnap.enc) (fun _ => rfl) [l[i]], rfl, by simp [chunk], rfl, by simp [maxLen, chunk]; omega, by first | (simp [chunk]; done) | (simp [chunk]; omega), ?_⟩; (conv => whnf)
            refine ⟨by first | (simp; done) | (simp; omega), by first | (simp; done) | (simp; omega), by first | (simp; done) | (simp; omega), k, i - k, by simp, by simp, ?_⟩; (conv => whnf)
            refine ⟨true, (N.drop k).map DSnap.enc, ⟨rfl, by first | (simp; done) | (simp; omega), rfl, by rw [List.map_drop]; exact (List.take_of_length_le (by simp; omega)).symm⟩, ?_⟩; (conv => whnf)
            refine ⟨_, laid_map (f := DSnap.enc) (fun _ => rfl) (N.drop k), rfl, by simp [chunk], rfl, by simp [maxLen, chunk]; omega, by first | (simp [chunk]; done) | (simp [chunk]; omega), ?_⟩; (conv => whnf)
            (refine ⟨((i + 1 : Nat) : Int), by rw [← wrap64_id] <;> omega, ?_⟩; conv => whnf)
            exact lg_back (i + 1) (by omega) (by (try dsimp only); omega) (weak_swap 112 944 (weak_of (all_cons rfl (all_cons (eq_loc rfl (by first | (simp [chunk]; done) | (simp [chunk]; omega))) (all_cons rfl all_nil))) (all_cons (eq_row rfl (by rw [he]; simp [chunk])) all_nil) rfl rfl))
        · skip
          have hk2 : insK N l[i] = k := stop fun _ => by rw [Bool.eq_false_iff, Ne, newer_iff]; rintro (q | ⟨q, _⟩); exact h2 q; exact h3 q
          have he : newest (l.take (i + 1)) = N.take k ++ [l[i]] ++ N.drop k := by rw [hsucc, insN, hk2]
          refine ⟨by simp, by first | (simp; done) | (simp; omega), by first | (simp; done) | (simp; omega), 0, k, by simp, by simp, ?_⟩; (conv => whnf)
          refine ⟨true, (N.take k).map DSnap.enc, ⟨rfl, by simp; omega, rfl, by simp [List.map_take]⟩, ?_⟩; (conv => whnf)
          refine ⟨_, laid_map (f := DSnap.enc) (fun _ => rfl) (N.take k), rfl, rfl, rfl, by simp [maxLen, chunk]; omega, by simp [chunk]; omega, ?_⟩; (conv => whnf)
          refine ⟨i, rfl, _, at_map hlt, ?_⟩; (conv => whnf)
          refine ⟨true, [l[i].enc], ⟨rfl, by simp [chunk], rfl, by simp [chunk]; rfl⟩, ?_⟩; (conv => whnf)
          refine ⟨[l[i].enc], laid_map (f := DSnap.enc) (fun _ => rfl) [l[i]], rfl, by simp [chunk], rfl, by simp [maxLen, chunk]; omega, by first | (simp [chunk]; done) | (simp [chunk]; omega), ?_⟩; (conv => whnf)
          refine ⟨by first | (simp; done) | (simp; omega), by first | (simp; done) | (simp; omega), by first | (simp; done) | (simp; omega), k, i - k, by simp, by simp, ?_⟩; (conv => whnf)
          refine ⟨true, (N.drop k).map DSnap.enc, ⟨rfl, by first | (simp; done) | (simp; omega), rfl, by rw [List.map_drop]; exact (List.take_of_length_le (by simp; omega)).symm⟩, ?_⟩; (conv => whnf)
          refine ⟨_, laid_map (f := DSnap.enc) (fun _ => rfl) (N.drop k), rfl, by simp [chunk], rfl, by simp [maxLen, chunk]; omega, by first | (simp [chunk]; done) | (simp [chunk]; omega), ?_⟩; (conv => whnf)
          (refine ⟨((i + 1 : Nat) : Int), by rw [← wrap64_id] <;> omega, ?_⟩; conv => whnf)
          exact lg_back (i + 1) (by omega) (by (try dsimp only); omega) (weak_swap 112 944 (weak_of (all_cons rfl (all_cons (eq_loc rfl (by first | (simp [chunk]; done) | (simp [chunk]; omega))) (all_cons rfl all_nil))) (all_cons (eq_row rfl (by rw [he]; simp [chunk])) all_nil) rfl rfl))
    · skip
      have hk2 : insK N l[i] = k := stop fun h => by omega
      have he : newest (l.take (i + 1)) = N.take k ++ [l[i]] ++ N.drop k := by rw [hsucc, insN, hk2]
      refine ⟨by simp, by first | (simp; done) | (simp; omega), by first | (simp; done) | (simp; omega), 0, k, by simp, by simp, ?_⟩; (conv => whnf)
      refine ⟨true, (N.take k).map DSnap.enc, ⟨rfl, by simp; omega, rfl, by simp [List.map_take]⟩, ?_⟩; (conv => whnf)
      refine ⟨_, laid_map (f := DSnap.enc) (fun _ => rfl) (N.take k), rfl, rfl, rfl, by simp [maxLen, chunk]; omega, by simp [chunk]; omega, ?_⟩; (conv => whnf)
      refine ⟨i, rfl, _, at_map hlt, ?_⟩; (conv => whnf)
      refine ⟨true, [l[i].enc], ⟨rfl, by simp [chunk], rfl, by simp [chunk]; rfl⟩, ?_⟩; (conv => whnf)
      refine ⟨[l[i].enc], laid_map (f := DSnap.enc) (fun _ => rfl) [l[i]], rfl, by simp [chunk], rfl, by simp [maxLen, chunk]; omega, by first | (simp [chunk]; done) | (simp [chunk]; omega), ?_⟩; (conv => whnf)
      refine ⟨by first | (simp; done) | (simp; omega), by first | (simp; done) | (simp; omega), by first | (simp; done) | (simp; omega), k, i - k, by simp, by simp, ?_⟩; (conv => whnf)
      refine ⟨true, (N.drop k).map DSnap.enc, ⟨rfl, by first | (simp; done) | (simp; omega), rfl, by rw [List.map_drop]; exact (List.take_of_length_le (by simp; omega)).symm⟩, ?_⟩; (conv => whnf)
      refine ⟨_, laid_map (f := DSnap.enc) (fun _ => rfl) (N.drop k), rfl, by simp [chunk], rfl, by simp [maxLen, chunk]; omega, by first | (simp [chunk]; done) | (simp [chunk]; omega), ?_⟩; (conv => whnf)
      (refine ⟨((i + 1 : Nat) : Int), by rw [← wrap64_id] <;> omega, ?_⟩; conv => whnf)
      exact lg_back (i + 1) (by omega) (by (try dsimp only); omega) (weak_swap 112 944 (weak_of (all_cons rfl (all_cons (eq_loc rfl (by first | (simp [chunk]; done) | (simp [chunk]; omega))) (all_cons rfl all_nil))) (all_cons (eq_row rfl (by rw [he]; simp [chunk])) all_nil) rfl rfl))
  · have : i = l.length := by omega
    subst this
    have e := newest_take_len l l.length (Nat.le_refl _)
    rw [List.take_length] at e
    refine ⟨close_row rfl rfl (by simp [e]) ?_, trivial⟩
    rw [List.take_length]
theorem tdiv_bnd {a b M : Int} (h0 : 0 ≤ a) (h1 : a ≤ M) (hb : 0 < b) : 0 ≤ a.tdiv b ∧ a.tdiv b ≤ M := by
  rw [Int.tdiv_eq_ediv_of_nonneg h0]
  refine ⟨Int.ediv_nonneg h0 (by omega), ?_⟩
  have := Int.ediv_le_self b h0
  omega
theorem fresh_at {l : List DSnap} {by_ : Int} {i : Nat} (hi : i < l.length) (h0 : i ≠ 0) : fresh l by_ i = decide ((l[i - 1]'(by omega)).day.tdiv by_ ≠ l[i].day.tdiv by_) := by
  unfold fresh
  rw [List.getElem?_eq_getElem hi, List.getElem?_eq_getElem (show i - 1 < l.length by omega)]
  simp [h0]
theorem someN_at {l : List DSnap} {many by_ : Int} {i : Nat} (hi : i < l.length) : someN l many by_ (i + 1) = if ((someN l many by_ i).length : Int) < many ∧ fresh l by_ i = true then someN l many by_ i ++ [l[i].name] else someN l many by_ i := by
  simp only [someN, someStep, List.getElem?_eq_getElem hi]
theorem l13Some_c (l : List DSnap) (hl : l.length ≤ 4294967295) (hd : ∀ s ∈ l, 0 ≤ s.day ∧ s.day ≤ 1000000) (many by_ : Int) (hb : 0 < by_) : Fun1 Try.prog 208 [.one (.row true 3 (l.map DSnap.enc)), .one (.lit (.int .i64 many)), .one (.lit (.int .i64 by_))] (.one (.row true 1 ((someN l many by_ l.length).map eStr))) := by
  refine fun1_of_vc tb_ok mix (fn := Try.f208) Try.func208 rfl (by kernel_rfl) (by kernel_rfl) (by simp [Try.f208]) (by show AV.nb (4 + 1) _ = true; exact nb_map (n := 4) (fun y => eStr_nbn 4 y) _) ?_
  (conv => whnf)
  refine ⟨LG (fun i : Nat => i ≤ l.length) (fun i => l.length - i) (fun i => AS.of [(0, .one (.row true 3 (l.map DSnap.enc))), (1, .one (.lit (.int .i64 many))), (2, .one (.lit (.int .i64 by_))), (7, .one (.loc 144 0 (someN l many by_ i).length)), (8, .one (.lit (.int .i64 (i : Nat))))] [(144, .row true 1 ((someN l many by_ i).map eStr))]), lg_init 0 (by omega) (weak_of (by repeat (first | refine all_cons (by first | rfl | exact eq_int rfl (by first | rfl | omega | (simp; done) | (simp; omega)) | exact eq_loc rfl (by first | rfl | omega | (simp; done) | (simp; omega)) | exact eq_bool rfl (by simp_all)) ?_ | exact all_nil)) (by repeat (first | refine all_cons (by first | rfl | exact eq_int rfl (by first | rfl | omega | (simp; done) | (simp; omega)) | exact eq_loc rfl (by first | rfl | omega | (simp; done) | (simp; omega)) | exact eq_bool rfl (by simp_all)) ?_ | exact all_nil)) rfl rfl), ?_⟩
  rintro σ k ⟨i, hi, rfl, rfl⟩
  have hat := fun hlt => someN_at (l := l) (many := many) (by_ := by_) (i := i) hlt
  have hfull := fun h => someN_full (l := l) (many := many) (by_ := by_) (i := i) h l.length hi
  have hlen := someN_len l many by_ i
  have hend : i = l.length → someN l many by_ l.length = someN l many by_ i := fun e => by rw [e]
  refine ⟨_, Weak.refl _, ?_⟩
  (conv => whnf)
  (split <;> rename_i h1 <;> (try simp only [decide_eq_true_eq, decide_eq_false_iff_not, Bool.not_eq_true', Bool.not_eq_false', Bool.not_eq_true, Bool.not_eq_false, List.length_map] at h1) <;> conv => whnf)
  · have hlt : i < l.length := by omega
    have hdi := hd _ (List.getElem_mem hlt)
    have hbi := tdiv_bnd hdi.1 hdi.2 hb
    (split <;> rename_i h2 <;> (try simp only [decide_eq_true_eq, decide_eq_false_iff_not, Bool.not_eq_true', Bool.not_eq_false', Bool.not_eq_true, Bool.not_eq_false, List.length_map] at h2) <;> conv => whnf)
    · (split <;> rename_i h3 <;> (try simp only [decide_eq_true_eq, decide_eq_false_iff_not, Bool.not_eq_true', Bool.not_eq_false', Bool.not_eq_true, Bool.not_eq_false, List.length_map] at h3) <;> conv => whnf)
      · skip
        have hts : someN l many by_ (i + 1) = someN l many by_ i ++ [l[i].name] := by rw [hat hlt, if_pos ⟨h2, by unfold fresh; rw [decide_eq_true (by omega)]; rfl⟩]
        refine ⟨i, rfl, _, at_map hlt, ?_⟩; (conv => whnf)
        refine ⟨true, [eStr l[i].name], ⟨rfl, by simp [chunk], rfl, by simp [chunk]; rfl⟩, ?_⟩; (conv => whnf)
        refine ⟨[eStr l[i].name], laid_map (f := eStr) (fun _ => rfl) [l[i].name], rfl, by simp [chunk], rfl, by simp [maxLen, chunk]; omega, by first | (simp [chunk]; done) | (simp [chunk]; omega), ?_⟩; (conv => whnf)
        (refine ⟨((i + 1 : Nat) : Int), by rw [← wrap64_id] <;> omega, ?_⟩; conv => whnf)
        exact lg_back (i + 1) (by omega) (by (try dsimp only); omega) (weak_of (all_cons rfl (all_cons rfl (all_cons rfl (all_cons (eq_loc rfl (by rw [hts]; simp [chunk])) (all_cons rfl all_nil))))) (all_cons (eq_row rfl (by rw [hts]; simp [chunk])) all_nil) rfl rfl)
      · have hdp := hd _ (List.getElem_mem (show i - 1 < l.length by omega))
        have hbp := tdiv_bnd hdp.1 hdp.2 hb
        refine ⟨((i - 1 : Nat) : Int), by rw [← wrap64_id] <;> omega, ?_⟩; (conv => whnf)
        refine ⟨i - 1, rfl, _, at_map (by omega), ?_⟩; (conv => whnf)
        refine ⟨by omega, (l[i - 1]'(by omega)).day.tdiv by_, by rw [← wrap64_id] <;> omega, ?_⟩; (conv => whnf)
        refine ⟨i, rfl, _, at_map hlt, ?_⟩; (conv => whnf)
        refine ⟨by omega, l[i].day.tdiv by_, by rw [← wrap64_id] <;> omega, ?_⟩; (conv => whnf)
        (split <;> rename_i h4 <;> (try simp only [decide_eq_true_eq, decide_eq_false_iff_not, Bool.not_eq_true', Bool.not_eq_false', Bool.not_eq_true, Bool.not_eq_false, List.length_map] at h4) <;> conv => whnf)
        · skip
          have hts : someN l many by_ (i + 1) = someN l many by_ i ++ [l[i].name] := by rw [hat hlt, if_pos ⟨h2, by rw [fresh_at hlt (by omega)]; exact decide_eq_true h4⟩]
          refine ⟨i, rfl, _, at_map hlt, ?_⟩; (conv => whnf)
          refine ⟨true, [eStr l[i].name], ⟨rfl, by simp [chunk], rfl, by simp [chunk]; rfl⟩, ?_⟩; (conv => whnf)
          refine ⟨[eStr l[i].name], laid_map (f := eStr) (fun _ => rfl) [l[i].name], rfl, by simp [chunk], rfl, by simp [maxLen, chunk]; omega, by first | (simp [chunk]; done) | (simp [chunk]; omega), ?_⟩; (conv => whnf)
          (refine ⟨((i + 1 : Nat) : Int), by rw [← wrap64_id] <;> omega, ?_⟩; conv => whnf)
          exact lg_back (i + 1) (by omega) (by (try dsimp only); omega) (weak_of (all_cons rfl (all_cons rfl (all_cons rfl (all_cons (eq_loc rfl (by rw [hts]; simp [chunk])) (all_cons rfl all_nil))))) (all_cons (eq_row rfl (by rw [hts]; simp [chunk])) all_nil) rfl rfl)
        · skip
          have hts : someN l many by_ (i + 1) = someN l many by_ i := by rw [hat hlt, if_neg (fun q => by have q2 := q.2; rw [fresh_at hlt (by omega)] at q2; exact (of_decide_eq_true q2) (by simpa using h4))]
          (refine ⟨((i + 1 : Nat) : Int), by rw [← wrap64_id] <;> omega, ?_⟩; conv => whnf)
          exact lg_back (i + 1) (by omega) (by (try dsimp only); omega) (weak_of (all_cons rfl (all_cons rfl (all_cons rfl (all_cons (eq_loc rfl (by rw [hts])) (all_cons rfl all_nil))))) (all_cons (eq_row rfl (by rw [hts])) all_nil) rfl rfl)
    · refine ⟨close_row rfl rfl (by simp) ?_, trivial⟩
      rw [hfull (by omega)]
  · refine ⟨close_row rfl rfl (by simp) ?_, trivial⟩
    rw [hend (by omega)]
end Go.Proofs.Ytlijeincckbdaaa
