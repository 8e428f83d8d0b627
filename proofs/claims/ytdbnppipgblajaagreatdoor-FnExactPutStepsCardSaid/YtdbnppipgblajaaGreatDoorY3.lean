/- Texts of the proof: an abstract machine for Go functions, contracts of the program's functions, and the row. -/
import Derived.Test.YtdbnppipgblajaaGreatDoorY2
import Derived.Laws.Bits64
import Derived.Laws.BitsLemmas
import Derived.Shelf.Strings.Repeat
import Derived.Test.YtdbnppipgblajaaGreatDoorY1
import Derived.Lib.AppendZeros
namespace Go.Proofs.YtdbnppipgblajaaGreatDoor
open Go.RowKit
set_option linter.unusedSimpArgs false
set_option linter.unusedVariables false
theorem ofIntN (n : Nat) {k : Nat} (h : n < 2 ^ k) : (BitVec.ofInt k (n : Int)).toNat = n := by
  rw [BitVec.ofInt_natCast, BitVec.toNat_ofNat]; exact Nat.mod_eq_of_lt h
theorem wrapN {n : Nat} (h : n < 9223372036854775808) : IntKind.i64.wrap (n : Int) = (n : Int) := (wrap64_id (a := (n : Int)) (by omega) (by omega)).symm
theorem xorN {a b : Nat} (ha : a < 9223372036854775808) (hb : b < 9223372036854775808) : bits .xor .i64 (a : Int) (b : Int) = ((a ^^^ b : Nat) : Int) := by
  show IntKind.i64.wrap ((BitVec.ofInt 64 (a : Int) ^^^ BitVec.ofInt 64 (b : Int)).toNat : Int) = _
  rw [BitVec.toNat_xor, ofIntN _ (by omega), ofIntN _ (by omega), wrapN]
  exact Nat.xor_lt_two_pow (n := 63) ha hb
theorem and1N {b : Nat} (hb : b < 9223372036854775808) : bits .and .i64 (b : Int) 1 = ((b % 2 : Nat) : Int) := by
  show IntKind.i64.wrap ((BitVec.ofInt 64 (b : Int) &&& BitVec.ofInt 64 ((1 : Nat) : Int)).toNat : Int) = _
  rw [BitVec.toNat_and, ofIntN _ (by omega), ofIntN _ (by omega), Nat.and_one_is_mod, wrapN]
  omega
def dblN (a : Nat) : Nat := if 255 < 2 * a then (2 * a) ^^^ 285 else 2 * a
def mulG : Nat → Nat → Nat → Nat → Nat
  | 0, _, _, o => o
  | n + 1, a, b, o => mulG n (dblN a) (b / 2) (if b % 2 = 1 then o ^^^ a else o)
def mulN (a b : Nat) : Nat := mulG 8 a b 0
theorem xor256 {a b : Nat} (ha : a < 256) (hb : b < 256) : a ^^^ b < 256 := Nat.xor_lt_two_pow (n := 8) ha hb
theorem dblN_lt : ∀ {a : Nat}, a < 256 → dblN a < 256 := fun {a} h => (by decide +kernel : ∀ a, a < 256 → dblN a < 256) a h
theorem mulG_zero (a o : Nat) : ∀ n, mulG n a 0 o = o := by
  intro n
  induction n generalizing a with
  | zero => rfl
  | succ n ih => exact ih _
theorem mulG_lt : ∀ {n a b o : Nat}, a < 256 → o < 256 → mulG n a b o < 256
  | 0, _, _, _, _, ho => ho
  | n + 1, a, b, o, ha, ho => mulG_lt (n := n) (dblN_lt ha) (by split; exact xor256 ho ha; exact ho)
theorem mulN_lt {a b : Nat} (ha : a < 256) : mulN a b < 256 := mulG_lt ha (by decide)
theorem xor_lc (a b c : Nat) : a ^^^ (b ^^^ c) = b ^^^ (a ^^^ c) := by rw [← Nat.xor_assoc, Nat.xor_comm a b, Nat.xor_assoc]
theorem dbl_xor' : ∀ {a b : Nat}, a < 256 → b < 256 → dblN (a ^^^ b) = dblN a ^^^ dblN b := by
  intro a b ha hb
  have e : ∀ {x : Nat}, x < 256 → dblN x = ((x <<< 1) ^^^ (if x.testBit 7 then 285 else 0)) := fun {x} hx => (by decide +kernel : ∀ x, x < 256 → dblN x = ((x <<< 1) ^^^ (if x.testBit 7 then 285 else 0))) x hx
  rw [e (xor256 ha hb), e ha, e hb, Nat.testBit_xor, Nat.shiftLeft_xor_distrib]
  cases a.testBit 7 <;> cases b.testBit 7 <;> simp [Nat.xor_assoc, Nat.xor_comm, xor_lc]
theorem xor_mid (a b c d : Nat) : (a ^^^ b) ^^^ (c ^^^ d) = (a ^^^ c) ^^^ (b ^^^ d) := by rw [Nat.xor_assoc, Nat.xor_assoc, xor_lc b c d]
/-- The product is linear in the first factor .. -/
theorem mulG_xor : ∀ {n a a' b o o' : Nat}, a < 256 → a' < 256 → mulG n (a ^^^ a') b (o ^^^ o') = mulG n a b o ^^^ mulG n a' b o'
  | 0, _, _, _, _, _, _, _ => rfl
  | n + 1, a, a', b, o, o', ha, ha' => by
    simp only [mulG]
    rw [dbl_xor' ha ha', ← mulG_xor (dblN_lt ha) (dblN_lt ha')]
    congr 1
    split
    · rw [xor_mid]
    · rfl
/-- .. and in the second one. -/
theorem mulG_xor2 : ∀ {n a b b' o o' : Nat}, mulG n a (b ^^^ b') (o ^^^ o') = mulG n a b o ^^^ mulG n a b' o'
  | 0, _, _, _, _, _ => rfl
  | n + 1, a, b, b', o, o' => by
    simp only [mulG]
    have h1 : (b ^^^ b') / 2 = b / 2 ^^^ b' / 2 := Nat.xor_div_two
    have h2 : (b ^^^ b') % 2 = (b % 2 + b' % 2) % 2 := by
      have := Nat.xor_mod_two_pow (a := b) (b := b') (n := 1)
      rw [Nat.pow_one] at this
      rw [this]
      rcases Nat.mod_two_eq_zero_or_one b with e | e <;> rcases Nat.mod_two_eq_zero_or_one b' with e' | e' <;> rw [e, e'] <;> rfl
    rw [h1, ← mulG_xor2]
    congr 1
    rw [h2]
    rcases Nat.mod_two_eq_zero_or_one b with e | e <;> rcases Nat.mod_two_eq_zero_or_one b' with e' | e' <;> simp only [e, e'] <;> simp [Nat.xor_assoc, Nat.xor_comm, xor_lc]
    · rw [← Nat.xor_assoc a a, Nat.xor_self, Nat.zero_xor]
theorem mulN_xor {a a' b : Nat} (ha : a < 256) (ha' : a' < 256) : mulN (a ^^^ a') b = mulN a b ^^^ mulN a' b := mulG_xor (o := 0) (o' := 0) ha ha'
theorem mulN_xor2 {a b b' : Nat} : mulN a (b ^^^ b') = mulN a b ^^^ mulN a b' := mulG_xor2 (o := 0) (o' := 0)
theorem mulN_comm {a b : Nat} (ha : a < 256) (hb : b < 256) : mulN a b = mulN b a := by
  have e : ∀ {x : Nat}, x < 256 → x = (16 * (x / 16)) ^^^ (x % 16) := fun {x} hx => (by decide +kernel : ∀ x, x < 256 → x = (16 * (x / 16)) ^^^ (x % 16)) x hx
  have c1 : ∀ i : Nat, i < 16 → ∀ j : Nat, j < 16 → mulN (16 * i) (16 * j) = mulN (16 * j) (16 * i) := by decide +kernel
  have c2 : ∀ i : Nat, i < 16 → ∀ j : Nat, j < 16 → mulN (16 * i) j = mulN j (16 * i) := by decide +kernel
  have c3 : ∀ i : Nat, i < 16 → ∀ j : Nat, j < 16 → mulN i j = mulN j i := by decide +kernel
  have ha1 : a / 16 < 16 := by omega
  have hb1 : b / 16 < 16 := by omega
  have ha2 : a % 16 < 16 := by omega
  have hb2 : b % 16 < 16 := by omega
  rw [e ha, e hb, mulN_xor2, mulN_xor (by omega) (by omega), mulN_xor (by omega) (by omega), mulN_xor2, mulN_xor (by omega) (by omega), mulN_xor (by omega) (by omega),
    c1 _ ha1 _ hb1, c2 _ ha1 _ hb2, c3 _ ha2 _ hb2, ← c2 _ hb1 _ ha2]
  rw [xor_mid]
theorem mulN_zero (a : Nat) : mulN a 0 = 0 := mulG_zero a 0 8
theorem zero_mulN {b : Nat} (hb : b < 256) : mulN 0 b = 0 := by rw [mulN_comm (by decide) hb]; exact mulN_zero b
def powG : Nat → Nat → Nat → Nat → Nat
  | 0, _, _, o => o
  | k + 1, a, n, o => powG k (mulN a a) (n / 2) (if n % 2 = 1 then mulN o a else o)
def invN (a : Nat) : Nat := powG 8 a 254 1
theorem powG_zero (a o : Nat) : ∀ k, powG k a 0 o = o := by
  intro n
  induction n generalizing a with
  | zero => rfl
  | succ n ih => exact ih _
theorem powG_lt : ∀ {k a n o : Nat}, a < 256 → o < 256 → powG k a n o < 256
  | 0, _, _, _, _, ho => ho
  | n + 1, a, b, o, ha, ho => powG_lt (k := n) (mulN_lt ha) (by split; exact mulN_lt ho; exact ho)
theorem invN_lt {a : Nat} (ha : a < 256) : invN a < 256 := powG_lt ha (by decide)
theorem invN_zero : invN 0 = 0 := by decide +kernel
end Go.Proofs.YtdbnppipgblajaaGreatDoor
namespace Go.Proofs.YtdbnppipgblajaaGreatDoor
open Go.RowKit
set_option linter.unusedSimpArgs false
set_option linter.unusedVariables false
def unitR (i n : Nat) : List Nat := (List.replicate n 0).set i 1
def parR (k i : Nat) : List Nat := (List.range k).map fun j => invN ((k + i) ^^^ j)
/-- The rows of the matrix of a right code. -/
def cauchyN (k m : Nat) : List (List Nat) := (List.range k).map (fun i => unitR i k) ++ (List.range m).map (parR k)
def eNat (n : Nat) : List AV := [.lit (.int .i64 (n : Int))]
def matE (r c : Nat) (cs : List Nat) : List AV := [.lit (.int .i64 (r : Int)), .lit (.int .i64 (c : Int)), .row true 1 (cs.map eNat)]
@[simp] theorem unitR_len (i n : Nat) : (unitR i n).length = n := by simp [unitR]
@[simp] theorem parR_len (k i : Nat) : (parR k i).length = k := by simp [parR]
theorem flat_len' {α : Type} {l : List (List α)} {k : Nat} (h : ∀ x ∈ l, x.length = k) : l.flatten.length = l.length * k := by
  induction l with
  | nil => simp
  | cons x l ih => simp only [List.flatten_cons, List.length_append, ih fun y hy => h y (by simp [hy]), h x (by simp), List.length_cons, Nat.add_mul]; omega
@[simp] theorem cauchyN_len (k m : Nat) : (cauchyN k m).length = k + m := by simp [cauchyN]
theorem cauchyN_row {k m : Nat} : ∀ x ∈ cauchyN k m, x.length = k := by
  intro x hx
  simp only [cauchyN, List.mem_append, List.mem_map] at hx
  rcases hx with ⟨i, _, rfl⟩ | ⟨i, _, rfl⟩
  · exact unitR_len i k
  · exact parR_len k i
theorem units_len (i n : Nat) : (((List.range i).map fun j => unitR j n).flatten).length = i * n := by
  rw [flat_len' (k := n) (fun x hx => by obtain ⟨j, _, rfl⟩ := List.mem_map.1 hx; exact unitR_len j n)]; simp
/-- The unit matrix, so far. -/
def unitZ (n i : Nat) : List Nat := ((List.range i).map fun j => unitR j n).flatten ++ List.replicate ((n - i) * n) 0
theorem unitZ_len {n i : Nat} (h : i ≤ n) : (unitZ n i).length = n * n := by
  unfold unitZ
  rw [List.length_append, units_len, List.length_replicate, ← Nat.add_mul]; congr 1; omega
theorem unitZ_set {n i : Nat} (h : i < n) : (unitZ n i).set (i * n + i) 1 = unitZ n (i + 1) := by
  unfold unitZ
  have e : (n - i) * n = n + (n - (i + 1)) * n := by rw [show n - i = 1 + (n - (i + 1)) by omega, Nat.add_mul, Nat.one_mul]
  rw [e, ← List.replicate_append_replicate, List.set_append_right _ _ (by rw [units_len]; omega), units_len, Nat.add_sub_cancel_left, List.set_append_left _ _ (by simp; omega), List.range_succ, List.map_append, List.flatten_append, List.append_assoc]
  simp [unitR]
theorem unitZ_end (n : Nat) : unitZ n n = ((List.range n).map fun j => unitR j n).flatten := by simp [unitZ]
end Go.Proofs.YtdbnppipgblajaaGreatDoor
namespace Go.Proofs.YtdbnppipgblajaaGreatDoor
open Go.RowKit
set_option linter.unusedSimpArgs false
set_option linter.unusedVariables false
def byteAt (t : ByteArray) (p : Nat) : UInt8 := t.data.toList.getD p 0
def mulB (x : Nat) (b : UInt8) : UInt8 := UInt8.ofNat (mulN x b.toNat)
theorem mulB_zero (b : UInt8) : mulB 0 b = 0 := by unfold mulB; rw [zero_mulN b.toNat_lt]; rfl
/-- A line that is turned up to a place. -/
def turnL (old : List UInt8) (f : Nat → UInt8) (p : Nat) : List UInt8 := (List.range p).map (fun q => old.getD q 0 ^^^ f q) ++ old.drop p
theorem turnL_len {old : List UInt8} {f : Nat → UInt8} {p : Nat} (h : p ≤ old.length) : (turnL old f p).length = old.length := by simp [turnL]; omega
theorem turnL_zero (old : List UInt8) (f : Nat → UInt8) : turnL old f 0 = old := by simp [turnL]
theorem turnL_get {old : List UInt8} {f : Nat → UInt8} {p : Nat} (h : p < old.length) : (turnL old f p)[p]? = some (old.getD p 0) := by
  unfold turnL
  rw [List.getElem?_append_right (by simp), List.length_map, List.length_range, Nat.sub_self, List.getElem?_drop, Nat.add_zero, List.getD_eq_getElem?_getD, List.getElem?_eq_getElem h]; rfl
theorem turnL_set {old : List UInt8} {f : Nat → UInt8} {p : Nat} (h : p < old.length) : (turnL old f p).set p (old.getD p 0 ^^^ f p) = turnL old f (p + 1) := by
  unfold turnL
  rw [List.set_append_right _ _ (by simp), List.length_map, List.length_range, Nat.sub_self, List.range_succ, List.map_append, List.append_assoc, List.drop_eq_getElem_cons h]
  rfl
theorem turnL_end (old : List UInt8) (f : Nat → UInt8) : turnL old f old.length = (List.range old.length).map fun q => old.getD q 0 ^^^ f q := by simp [turnL]
/-- The line of a row, behind j of its numbers. -/
def lineN (cs : List Nat) (texts : List ByteArray) (L base : Nat) : Nat → List UInt8
  | 0 => List.replicate L 0
  | j + 1 => turnL (lineN cs texts L base j) (fun q => mulB (cs.getD (base + j) 0) (byteAt (texts.getD j .empty) q)) L
theorem lineN_len (cs : List Nat) (texts : List ByteArray) (L base : Nat) : ∀ j, (lineN cs texts L base j).length = L
  | 0 => by simp [lineN]
  | j + 1 => by have := lineN_len cs texts L base j; rw [lineN, turnL_len (by omega), this]
theorem turnL_skip {old : List UInt8} {f : Nat → UInt8} (hf : ∀ q, f q = 0) : turnL old f old.length = old := by
  rw [turnL_end]
  apply List.ext_getElem?
  intro i
  rw [List.getElem?_map]
  by_cases h : i < old.length
  · rw [List.getElem?_range h, List.getElem?_eq_getElem h]
    simp [hf, List.getD_eq_getElem?_getD, List.getElem?_eq_getElem h]
  · rw [List.getElem?_eq_none (by simp; omega), List.getElem?_eq_none (by omega)]; rfl
theorem lineN_skip {cs : List Nat} {texts : List ByteArray} {L base j : Nat} (h : cs.getD (base + j) 0 = 0) : lineN cs texts L base (j + 1) = lineN cs texts L base j := by
  have hl := lineN_len cs texts L base j
  rw [lineN]
  conv => lhs; rw [← hl]
  rw [hl]
  have := turnL_skip (old := lineN cs texts L base j) (f := fun q => mulB (cs.getD (base + j) 0) (byteAt (texts.getD j .empty) q)) (fun q => by rw [h]; exact mulB_zero _)
  rw [hl] at this
  exact this
def txtOf (l : List UInt8) : ByteArray := ⟨l.toArray⟩
/-- Texts, times a matrix. -/
def combN (r c : Nat) (cs : List Nat) (texts : List ByteArray) (L : Nat) : List ByteArray := (List.range r).map fun i => txtOf (lineN cs texts L (i * c) c)
theorem u8_xorI (x y : UInt8) : bits .xor .u8 (x.toNat : Int) (y.toNat : Int) = ((x ^^^ y).toNat : Int) := by
  have hx := x.toNat_lt
  have hy := y.toNat_lt
  show IntKind.u8.wrap ((BitVec.ofInt 8 (x.toNat : Int) ^^^ BitVec.ofInt 8 (y.toNat : Int)).toNat : Int) = _
  rw [BitVec.toNat_xor, ofIntN _ hx, ofIntN _ hy, UInt8.toNat_xor, IntKind.wrap_u8]
  have := Nat.xor_lt_two_pow (n := 8) hx hy
  omega
theorem u8_wrapI (n : Nat) : IntKind.u8.wrap (n : Int) = ((UInt8.ofNat n).toNat : Int) := by
  rw [IntKind.wrap_u8, UInt8.toNat_ofNat']; omega
end Go.Proofs.YtdbnppipgblajaaGreatDoor
namespace Go.Proofs.YtdbnppipgblajaaGreatDoor
open Go.RowKit
set_option linter.unusedSimpArgs false
set_option linter.unusedVariables false
set_option maxRecDepth 100000
set_option maxHeartbeats 8000000
abbrev eV (x : UInt32) : AV := .lit (.int .u32 (x.toNat : Int))
theorem dec_ok {c : Prop} {d : Decidable c} {A : ¬ c → Prop} {B : c → Prop} (hc : c) (h : B hc) : @Decidable.rec c (fun _ => Prop) A B d := by
  cases d with
  | isTrue _ => exact h
  | isFalse h' => exact absurd hc h'
theorem mk1 {xs : List AV} {i : Nat} {x : AV} (hx : xs[i]? = some x) : mkT false ((xs.drop (0 + i * 1)).take 1) = .one x.bor := by
  obtain ⟨hi, rfl⟩ := List.getElem?_eq_some_iff.1 hx
  rw [Nat.zero_add, Nat.mul_one, List.drop_eq_getElem_cons hi]; rfl
theorem mk1c {α : Type} {xs : List α} {i : Nat} {x : α} (hx : xs[i]? = some x) : 0 + i * 1 + 1 ≤ xs.length := by
  obtain ⟨hi, rfl⟩ := List.getElem?_eq_some_iff.1 hx; omega
theorem mkg {cs : List Value} {i : Nat} {v : Value} (hx : cs[i]? = some v) : mkT false (((cs.drop (0 + i * 1)).take 1).map .lit) = .one (.lit v) := by
  obtain ⟨hi, rfl⟩ := List.getElem?_eq_some_iff.1 hx
  rw [Nat.zero_add, Nat.mul_one, List.drop_eq_getElem_cons hi]; rfl
theorem splice_one {l : List UInt32} {i : Nat} {v : UInt32} {y : AV} (h : i < l.length) (hy : y = eV v) : splice 1 [y] (0 + i * 1) (l.map eV) = (l.set i v).map eV := by
  subst hy
  rw [splice_eq, Nat.zero_add, Nat.mul_one, List.map_set, List.set_eq_take_append_cons_drop, if_pos (by simpa using h)]
  simp
theorem set_step {A L : List UInt32} {i : Nat} {x : UInt32} (hA : i < A.length) (hL : i < L.length) (hx : x = A[i]) : (A.take i ++ L.drop i).set i x = A.take (i + 1) ++ L.drop (i + 1) := by
  have hl : (A.take i).length = i := by rw [List.length_take]; omega
  rw [List.take_succ_eq_append_getElem hA, List.drop_eq_getElem_cons hL, List.set_append_right _ _ (by omega), hl, Nat.sub_self, List.append_assoc, hx]; rfl
theorem get_step {A L : List UInt32} {i : Nat} (hA : i < A.length) (hL : i < L.length) : (A.take i ++ L.drop i).getD i 0 = L[i] := by
  have hl : (A.take i).length = i := by rw [List.length_take]; omega
  rw [List.getD_eq_getElem?_getD, List.getElem?_append_right (by omega), hl, Nat.sub_self, List.getElem?_drop, Nat.add_zero, List.getElem?_eq_getElem hL]; rfl
theorem getD_at {L : List UInt32} {i : Nat} (hL : i < L.length) : L.getD i 0 = L[i] := by
  rw [List.getD_eq_getElem?_getD, List.getElem?_eq_getElem hL]; rfl
theorem get_map {l : List UInt32} {i : Nat} (h : i < l.length) : (l.map eV)[i]? = some (eV (l.getD i 0)) := by
  rw [List.getElem?_map, List.getD_eq_getElem?_getD, List.getElem?_eq_getElem h]; rfl
theorem and31 {k : Nat} (h0 : 0 < k) (h1 : k < 32) : bits .and .u64 ((18446744073709551616 - k : Nat) : Int) 31 = ((32 - k : Nat) : Int) := by
  show IntKind.u64.wrap ((BitVec.ofInt 64 ((18446744073709551616 - k : Nat) : Int) &&& BitVec.ofInt 64 ((31 : Nat) : Int)).toNat : Int) = _
  rw [BitVec.toNat_and, ofIntN _ (by omega), ofIntN _ (by omega), show (31 : Nat) = 2 ^ 5 - 1 from rfl, Nat.and_two_pow_sub_one_eq_mod, IntKind.wrap_u64]
  omega
theorem rot_c (x : UInt32) (k : Nat) (h0 : 0 < k) (h1 : k < 32) : Fun1 Tryz.prog 105 [.one (eV x), .one (.lit (.int .i64 (-(k : Int))))] (.one (eV (turnW x k))) := by
  refine fun1_of_vc tb_ok mix (fn := Tryz.f105) Tryz.func105 rfl (by kernel_rfl) (by kernel_rfl) (by simp [Tryz.f105]) (by rfl) ?_
  (conv => whnf)
  refine ⟨((18446744073709551616 - k : Nat) : Int), by rw [IntKind.wrap_u64]; omega, ?_⟩; (conv => whnf)
  rw [and31 h0 h1]
  refine ⟨by omega, ((x <<< UInt32.ofNat (32 - k)).toNat : Int), by rw [← u32_shl x (32 - k) (by omega)]; congr 3; show 32 - k = min (((32 - k : Nat) : Int).toNat) 32; omega, ?_⟩; (conv => whnf)
  refine ⟨(k : Int), by rw [IntKind.wrap_u64]; omega, ?_⟩; (conv => whnf)
  refine ⟨by omega, ((x >>> UInt32.ofNat k).toNat : Int), by rw [← u32_shr x k h1]; congr 2; show k = min ((k : Int).toNat) 32; omega, ?_⟩; (conv => whnf)
  exact ⟨close_int (by rw [u32_or, turnW, UInt32.or_comm]), trivial⟩
theorem right_c (x : UInt32) (k : Nat) (h0 : 0 < k) (h1 : k < 32) : Fun1 Tryz.prog 88 [.one (eV x), .one (.lit (.int .i64 (k : Int)))] (.one (eV (turnW x k))) := by
  refine fun1_of_vc tb_ok mix (fn := Tryz.f88) Tryz.func88 rfl (by kernel_rfl) (by kernel_rfl) (by simp [Tryz.f88]) (by rfl) ?_
  (conv => whnf)
  refine ⟨-(k : Int), by rw [← wrap64_id] <;> omega, ?_⟩; (conv => whnf)
  refine ⟨_, _, rot_c x k h0 h1, (by repeat' (first | exact lends_nil | exact lend_dead | apply lends_cons | apply lend_agg | apply lend_one | exact all2_nil | apply all2_cons | exact la_lit rfl | exact la_int (by first | rfl | omega) | exact la_row rfl rfl | exact la_loc rfl rfl rfl (by first | rfl | simp [mkL_length]) (by first | rfl | simp) | exact la_nil rfl | apply la_fn rfl | exact lend_same rfl rfl | exact lend_bor rfl rfl)), ?_⟩; (conv => whnf)
  exact ⟨close_int rfl, trivial⟩
/-- A word of a block, so far. -/
def partW (b : ByteArray) (i : Nat) : Nat → UInt32
  | 0 => 0
  | k + 1 => (partW b i k <<< UInt32.ofNat 8) ||| byteW b (4 * i + k)
theorem or_shl (x y : UInt32) (k : UInt32) : (x ||| y) <<< k = (x <<< k) ||| (y <<< k) := by
  apply UInt32.toBitVec_inj.1
  simp [UInt32.toBitVec_shiftLeft, UInt32.toBitVec_or, BitVec.shiftLeft_or_distrib]
theorem partW_end (b : ByteArray) (i : Nat) : partW b i 4 = be32 b (4 * i) := by
  have e1 : ∀ (x : UInt32) (p q : Nat), p + q < 32 → (x <<< UInt32.ofNat p) <<< UInt32.ofNat q = x <<< UInt32.ofNat (p + q) := by
    intro x p q h
    apply UInt32.toNat_inj.1
    rw [UInt32.toNat_shiftLeft, UInt32.toNat_shiftLeft, UInt32.toNat_shiftLeft, u32_k (by omega), u32_k (by omega), u32_k h]
    simp only [Nat.shiftLeft_eq, Nat.mod_mul_mod, Nat.pow_add, Nat.mul_assoc]
  have e0 : ((0 : UInt32) <<< UInt32.ofNat 8) = 0 := by decide
  have ez : ∀ x : UInt32, 0 ||| x = x := fun x => by simp
  simp only [partW, be32, e0, ez, or_shl, e1 _ 8 8 (by decide), e1 _ 16 8 (by decide), e1 _ (8 + 8) 8 (by decide)]
  rfl
theorem wRow_set0 {w : List UInt32} (h : w.length < 64) : (wRow w).set w.length 0 = wRow w := by
  rw [wRow_set h]
  unfold wRow
  have e : 64 - w.length = (64 - (w ++ [(0 : UInt32)]).length) + 1 := by simp; omega
  rw [e, List.replicate_succ, List.append_assoc]; rfl
theorem roots_eq : gv1 = keysL.map fun x => .int .u32 (x.toNat : Int) := by kernel_rfl
theorem roots_at {i : Nat} (h : i < 64) : gv1[i]? = some (.int .u32 ((keysL.getD i 0).toNat : Int)) := by
  rw [roots_eq, List.getElem?_map, List.getD_eq_getElem?_getD, List.getElem?_eq_getElem (show i < keysL.length from h)]; rfl
end Go.Proofs.YtdbnppipgblajaaGreatDoor
namespace Go.Proofs.YtdbnppipgblajaaGreatDoor
open Go.RowKit
set_option linter.unusedSimpArgs false
set_option linter.unusedVariables false
set_option maxRecDepth 100000
set_option maxHeartbeats 8000000
theorem var_only {l : List Nat} (xs : List UInt32) : (Blk.var (xs.map eV)).only l = true := by
  show (xs.map eV).all (AV.only l) = true
  rw [List.all_eq_true]
  intro x hx
  obtain ⟨y, _, rfl⟩ := List.mem_map.1 hx
  rfl
theorem eVs_nb (l : List UInt32) : (T.agg (l.map eV)).nb = true := by
  show (l.map eV).all (AV.nb 5) = true
  rw [List.all_eq_true]
  intro x hx
  obtain ⟨y, _, rfl⟩ := List.mem_map.1 hx
  rfl
def zero8 : List AV := [.lit (.int .u32 0), .lit (.int .u32 0), .lit (.int .u32 0), .lit (.int .u32 0), .lit (.int .u32 0), .lit (.int .u32 0), .lit (.int .u32 0), .lit (.int .u32 0)]
theorem taken_c (s0 s1 s2 s3 s4 s5 s6 s7 : UInt32) (b : ByteArray) (hb : b.size = 64) :
    Fun1 Tryz.prog 66 [.agg ([s0, s1, s2, s3, s4, s5, s6, s7].map eV), .one (.lit (.string b))] (.agg ((block [s0, s1, s2, s3, s4, s5, s6, s7] b).map eV)) := by
  obtain ⟨st, hst⟩ : ∃ st, st = [s0, s1, s2, s3, s4, s5, s6, s7] := ⟨_, rfl⟩
  refine fun1_of_vc tb_ok mix (fn := Tryz.f66) Tryz.func66 rfl (by kernel_rfl) (by kernel_rfl) (by simp [Tryz.f66]) (by exact eVs_nb _) ?_
  rw [← hst]
  (conv => whnf)
  refine ⟨LG (fun i : Nat => i ≤ 64) (fun i => 64 - i) (fun i => AS.of [(1, .one (.lit (.string b))), (2, .one (.ptr 32 0)), (4, .one (.ptr 64 0)), (5, .one (.ptr 80 0)), (21, .one (.lit (.int .i64 (i : Nat))))] [(32, .var (st.map eV)), (64, .var zero8), (80, .var ((wRow (sched b i)).map eV))]),
    lg_init 0 (by omega) (weak_of (by repeat (first | refine all_cons (by first | rfl | exact eq_int rfl (by first | rfl | omega | (simp; done) | (simp; omega)) | exact eq_loc rfl (by first | rfl | omega | (simp; done) | (simp; omega)) | exact eq_bool rfl (by simp_all)) ?_ | exact all_nil)) (by repeat (first | refine all_cons (by first | rfl | exact eq_int rfl (by first | rfl | omega | (simp; done) | (simp; omega)) | exact eq_loc rfl (by first | rfl | omega | (simp; done) | (simp; omega)) | exact eq_bool rfl (by simp_all)) ?_ | exact all_nil)) rfl (by repeat (first | exact onm_nil | refine onm_cons (by first | rfl | exact var_only _) ?_))), ?_⟩
  rintro σ k ⟨i, hi, rfl, rfl⟩
  have hl := sched_len b i
  have hrl := wRow_len (w := sched b i) (by omega)
  refine ⟨_, Weak.refl _, ?_⟩
  (conv => whnf)
  (split <;> rename_i h <;> (try simp only [decide_eq_true_eq, decide_eq_false_iff_not, Bool.not_eq_true', Bool.not_eq_false', Bool.not_eq_true, Bool.not_eq_false, List.length_map] at h) <;> conv => whnf)
  · have hlt : i < 64 := by omega
    (split <;> rename_i h2 <;> (try simp only [decide_eq_true_eq, decide_eq_false_iff_not, Bool.not_eq_true', Bool.not_eq_false', Bool.not_eq_true, Bool.not_eq_false, List.length_map] at h2) <;> conv => whnf)
    · have hi16 : i < 16 := by omega
      have hb0 : (wRow (sched b i)).set i 0 = wRow (sched b i) := by
        have := wRow_set0 (w := sched b i) (by omega)
        rw [hl] at this; exact this
      have hs1 : sched b (i + 1) = sched b i ++ [be32 b (4 * i)] := by simp only [sched, schedN, if_pos hi16]
      have hb4 : (wRow (sched b i)).set i (be32 b (4 * i)) = wRow (sched b (i + 1)) := by
        have := wRow_set (w := sched b i) (by omega) (be32 b (4 * i))
        rw [hl] at this; rw [hs1]; exact this
      refine ⟨LG (fun q : Nat => q ≤ 4) (fun q => 4 - q) (fun q => AS.of [(1, .one (.lit (.string b))), (2, .one (.ptr 32 0)), (4, .one (.ptr 64 0)), (5, .one (.ptr 80 0)), (6, .one (.lit (.int .i64 (i : Nat)))), (21, .one (.lit (.int .i64 (i : Nat)))), (26, .one (.lit (.int .i64 (q : Nat))))] [(32, .var (st.map eV)), (64, .var zero8), (80, .var (((wRow (sched b i)).set i (partW b i q)).map eV))]),
        lg_init 0 (by omega) (weak_of (by repeat (first | refine all_cons (by first | rfl | exact eq_int rfl (by first | rfl | omega | (simp; done) | (simp; omega)) | exact eq_loc rfl (by first | rfl | omega | (simp; done) | (simp; omega)) | exact eq_bool rfl (by simp_all)) ?_ | exact all_nil)) (all_cons rfl (all_cons rfl (all_cons (eq_var rfl (by rw [show partW b i 0 = 0 from rfl, hb0])) all_nil))) rfl (by repeat (first | exact onm_nil | refine onm_cons (by first | rfl | exact var_only _) ?_))), ?_⟩
      rintro σ k ⟨q, hq, rfl, rfl⟩
      have hsl : ((wRow (sched b i)).set i (partW b i q)).length = 64 := by rw [List.length_set, hrl]
      refine ⟨_, Weak.refl _, ?_⟩
      (conv => whnf)
      (split <;> rename_i h3 <;> (try simp only [decide_eq_true_eq, decide_eq_false_iff_not, Bool.not_eq_true', Bool.not_eq_false', Bool.not_eq_true, Bool.not_eq_false, List.length_map] at h3) <;> conv => whnf)
      · have hlq : q < 4 := by omega
        refine ⟨i, rfl, hlt, ?_⟩; (conv => whnf)
        have hgx := get_map (l := (wRow (sched b i)).set i (partW b i q)) (i := i) (by omega)
        rw [show ((wRow (sched b i)).set i (partW b i q)).getD i 0 = partW b i q by rw [List.getD_eq_getElem?_getD, List.getElem?_set, if_pos rfl, if_pos (by omega)]; rfl] at hgx
        (refine dec_ok (mk1c hgx) ?_; rw [mk1 hgx]; conv => whnf)
        refine ⟨by decide, _, (u32_shl _ 8 (by decide)).symm, ?_⟩; (conv => whnf)
        refine ⟨((4 * i : Nat) : Int), by rw [← wrap64_id] <;> omega, ?_⟩; (conv => whnf)
        refine ⟨((4 * i + q : Nat) : Int), by rw [← wrap64_id] <;> omega, ?_⟩; (conv => whnf)
        refine ⟨4 * i + q, rfl, by omega, ?_⟩; (conv => whnf)
        refine ⟨((byteW b (4 * i + q)).toNat : Int), (u8_u32 _).symm, ?_⟩; (conv => whnf)
        refine ⟨i, rfl, hlt, ?_⟩; (conv => whnf)
        refine dec_ok (by rw [List.length_map]; omega) ?_; (conv => whnf)
        (refine ⟨((q + 1 : Nat) : Int), by rw [← wrap64_id] <;> omega, ?_⟩; conv => whnf)
        exact lg_back (q + 1) (by omega) (by (try dsimp only); omega) (weak_of (by repeat (first | refine all_cons (by first | rfl | exact eq_int rfl (by first | rfl | omega | (simp; done) | (simp; omega)) | exact eq_loc rfl (by first | rfl | omega | (simp; done) | (simp; omega)) | exact eq_bool rfl (by simp_all)) ?_ | exact all_nil)) (all_cons rfl (all_cons rfl (all_cons (eq_var rfl (by rw [splice_one (v := partW b i (q + 1)) (by omega) (by rw [u32_or]; rfl), List.set_set])) all_nil))) rfl (by repeat (first | exact onm_nil | refine onm_cons (by first | rfl | exact var_only _) ?_)))
      · have : q = 4 := by omega
        subst this
        (refine ⟨((i + 1 : Nat) : Int), by rw [← wrap64_id] <;> omega, ?_⟩; conv => whnf)
        exact lg_back (i + 1) (by omega) (by (try dsimp only); omega) (weak_of (by repeat (first | refine all_cons (by first | rfl | exact eq_int rfl (by first | rfl | omega | (simp; done) | (simp; omega)) | exact eq_loc rfl (by first | rfl | omega | (simp; done) | (simp; omega)) | exact eq_bool rfl (by simp_all)) ?_ | exact all_nil)) (all_cons rfl (all_cons rfl (all_cons (eq_var rfl (by rw [partW_end, hb4])) all_nil))) rfl (by repeat (first | exact onm_nil | refine onm_cons (by first | rfl | exact var_only _) ?_)))
    · obtain ⟨w, hw⟩ : ∃ w, sched b i = w := ⟨_, rfl⟩
      have hsc : sched b (i + 1) = w ++ [w.getD (i - 16) 0 + sg0 (w.getD (i - 15) 0) + w.getD (i - 7) 0 + sg1 (w.getD (i - 2) 0)] := by
        simp only [sched, schedN, hw, if_neg (show ¬ i < 16 by omega)]
      simp only [hw] at hl hrl ⊢
      have hgw : ∀ j, j < i → (wRow w).getD j 0 = w.getD j 0 := fun j hj => by
        have := wRow_get (w := w) (j := j) (by omega)
        rw [List.getD_eq_getElem?_getD, this]; rfl
      have hset := wRow_set (w := w) (by omega) (w.getD (i - 16) 0 + sg0 (w.getD (i - 15) 0) + w.getD (i - 7) 0 + sg1 (w.getD (i - 2) 0))
      rw [hl, ← hsc] at hset
      have g15 := get_map (l := wRow w) (i := i - 15) (by omega)
      have g2 := get_map (l := wRow w) (i := i - 2) (by omega)
      have g16 := get_map (l := wRow w) (i := i - 16) (by omega)
      have g7 := get_map (l := wRow w) (i := i - 7) (by omega)
      rw [hgw _ (by omega)] at g15 g2 g16 g7
      obtain ⟨x, hx⟩ : ∃ x, w.getD (i - 15) 0 = x := ⟨_, rfl⟩
      obtain ⟨y, hy⟩ : ∃ y, w.getD (i - 2) 0 = y := ⟨_, rfl⟩
      obtain ⟨z, hz⟩ : ∃ z, w.getD (i - 16) 0 = z := ⟨_, rfl⟩
      obtain ⟨v, hv⟩ : ∃ v, w.getD (i - 7) 0 = v := ⟨_, rfl⟩
      rw [hx, hy, hz, hv] at hset
      rw [hx] at g15
      rw [hy] at g2
      rw [hz] at g16
      rw [hv] at g7
      refine ⟨((i - 15 : Nat) : Int), by rw [← wrap64_id] <;> omega, ?_⟩; (conv => whnf)
      refine ⟨i - 15, rfl, by omega, ?_⟩; (conv => whnf)
      (refine dec_ok (mk1c g15) ?_; rw [mk1 g15]; conv => whnf)
      refine ⟨((i - 2 : Nat) : Int), by rw [← wrap64_id] <;> omega, ?_⟩; (conv => whnf)
      refine ⟨i - 2, rfl, by omega, ?_⟩; (conv => whnf)
      (refine dec_ok (mk1c g2) ?_; rw [mk1 g2]; conv => whnf)
      refine ⟨((i - 16 : Nat) : Int), by rw [← wrap64_id] <;> omega, ?_⟩; (conv => whnf)
      refine ⟨i - 16, rfl, by omega, ?_⟩; (conv => whnf)
      (refine dec_ok (mk1c g16) ?_; rw [mk1 g16]; conv => whnf)
      refine ⟨_, _, right_c x 7 (by decide) (by decide), (by repeat' (first | exact lends_nil | exact lend_dead | apply lends_cons | apply lend_agg | apply lend_one | exact all2_nil | apply all2_cons | exact la_lit rfl | exact la_int (by first | rfl | omega) | exact la_row rfl rfl | exact la_loc rfl rfl rfl (by first | rfl | simp [mkL_length]) (by first | rfl | simp) | exact la_nil rfl | apply la_fn rfl | exact lend_same rfl rfl | exact lend_bor rfl rfl)), ?_⟩; (conv => whnf)
      refine ⟨_, _, right_c x 18 (by decide) (by decide), (by repeat' (first | exact lends_nil | exact lend_dead | apply lends_cons | apply lend_agg | apply lend_one | exact all2_nil | apply all2_cons | exact la_lit rfl | exact la_int (by first | rfl | omega) | exact la_row rfl rfl | exact la_loc rfl rfl rfl (by first | rfl | simp [mkL_length]) (by first | rfl | simp) | exact la_nil rfl | apply la_fn rfl | exact lend_same rfl rfl | exact lend_bor rfl rfl)), ?_⟩; (conv => whnf)
      refine ⟨by decide, _, (u32_shr x 3 (by decide)).symm, ?_⟩; (conv => whnf)
      refine ⟨((z + sg0 x).toNat : Int), by rw [← u32_add]; simp only [u32_xor, sg0], ?_⟩; (conv => whnf)
      refine ⟨((i - 7 : Nat) : Int), by rw [← wrap64_id] <;> omega, ?_⟩; (conv => whnf)
      refine ⟨i - 7, rfl, by omega, ?_⟩; (conv => whnf)
      (refine dec_ok (mk1c g7) ?_; rw [mk1 g7]; conv => whnf)
      refine ⟨_, (u32_add _ _).symm, ?_⟩; (conv => whnf)
      refine ⟨_, _, right_c y 17 (by decide) (by decide), (by repeat' (first | exact lends_nil | exact lend_dead | apply lends_cons | apply lend_agg | apply lend_one | exact all2_nil | apply all2_cons | exact la_lit rfl | exact la_int (by first | rfl | omega) | exact la_row rfl rfl | exact la_loc rfl rfl rfl (by first | rfl | simp [mkL_length]) (by first | rfl | simp) | exact la_nil rfl | apply la_fn rfl | exact lend_same rfl rfl | exact lend_bor rfl rfl)), ?_⟩; (conv => whnf)
      refine ⟨_, _, right_c y 19 (by decide) (by decide), (by repeat' (first | exact lends_nil | exact lend_dead | apply lends_cons | apply lend_agg | apply lend_one | exact all2_nil | apply all2_cons | exact la_lit rfl | exact la_int (by first | rfl | omega) | exact la_row rfl rfl | exact la_loc rfl rfl rfl (by first | rfl | simp [mkL_length]) (by first | rfl | simp) | exact la_nil rfl | apply la_fn rfl | exact lend_same rfl rfl | exact lend_bor rfl rfl)), ?_⟩; (conv => whnf)
      refine ⟨by decide, _, (u32_shr y 10 (by decide)).symm, ?_⟩; (conv => whnf)
      refine ⟨((z + sg0 x + v + sg1 y).toNat : Int), by rw [← u32_add (_ + _)]; simp only [u32_xor, sg1], ?_⟩; (conv => whnf)
      refine ⟨i, rfl, hlt, ?_⟩; (conv => whnf)
      refine dec_ok (by rw [List.length_map]; omega) ?_; (conv => whnf)
      (refine ⟨((i + 1 : Nat) : Int), by rw [← wrap64_id] <;> omega, ?_⟩; conv => whnf)
      exact lg_back (i + 1) (by omega) (by (try dsimp only); omega) (weak_of (by repeat (first | refine all_cons (by first | rfl | exact eq_int rfl (by first | rfl | omega | (simp; done) | (simp; omega)) | exact eq_loc rfl (by first | rfl | omega | (simp; done) | (simp; omega)) | exact eq_bool rfl (by simp_all)) ?_ | exact all_nil)) (all_cons rfl (all_cons rfl (all_cons (eq_var rfl (by rw [splice_one (v := z + sg0 x + v + sg1 y) (by omega) rfl, hset])) all_nil))) rfl (by repeat (first | exact onm_nil | refine onm_cons (by first | rfl | exact var_only _) ?_)))
  · have : i = 64 := by omega
    subst this
    have hblk : block st b = addW st (rounds (sched b 64) (S8.of st) 64).list := rfl
    obtain ⟨W, hW⟩ : ∃ W, sched b 64 = W := ⟨_, rfl⟩
    rw [hW] at hblk
    have hwr : wRow W = W := by unfold wRow; rw [hW] at hl; rw [hl]; simp
    rw [hblk]
    simp only [hW, hwr] at hl hrl ⊢
    clear hblk hrl hW
    subst hst
    (conv => whnf)
    have hRs : ∀ i, rounds W (S8.of [s0, s1, s2, s3, s4, s5, s6, s7]) (i + 1) = rnd (rounds W (S8.of [s0, s1, s2, s3, s4, s5, s6, s7]) i) (keysL.getD i 0) (W.getD i 0) := fun i => rfl
    have hR0 : rounds W (S8.of [s0, s1, s2, s3, s4, s5, s6, s7]) 0 = ⟨s0, s1, s2, s3, s4, s5, s6, s7⟩ := rfl
    generalize rounds W (S8.of [s0, s1, s2, s3, s4, s5, s6, s7]) = RR at hRs hR0 ⊢
    refine ⟨LG (fun p : Nat × S8 => p.1 ≤ 64 ∧ p.2 = RR p.1) (fun p => 64 - p.1) (fun p => AS.of [(2, .one (.ptr 32 0)), (4, .one (.ptr 64 0)), (5, .one (.ptr 80 0)), (10, .one (.ptr 160 0)), (83, .one (.lit (.int .i64 (p.1 : Nat))))] [(32, .var ([s0, s1, s2, s3, s4, s5, s6, s7].map eV)), (64, .var zero8), (80, .var (W.map eV)), (160, .var [eV p.2.a, eV p.2.b, eV p.2.c, eV p.2.d, eV p.2.e, eV p.2.f, eV p.2.g, eV p.2.h])]),
      lg_init (0, ⟨s0, s1, s2, s3, s4, s5, s6, s7⟩) ⟨by show 0 ≤ 64; omega, hR0.symm⟩ (weak_of (by repeat (first | refine all_cons (by first | rfl | exact eq_int rfl (by first | rfl | omega | (simp; done) | (simp; omega)) | exact eq_loc rfl (by first | rfl | omega | (simp; done) | (simp; omega)) | exact eq_bool rfl (by simp_all)) ?_ | exact all_nil)) (by repeat (first | refine all_cons (by first | rfl | exact eq_int rfl (by first | rfl | omega | (simp; done) | (simp; omega)) | exact eq_loc rfl (by first | rfl | omega | (simp; done) | (simp; omega)) | exact eq_bool rfl (by simp_all)) ?_ | exact all_nil)) rfl (by repeat (first | exact onm_nil | refine onm_cons (by first | rfl | exact var_only _) ?_))), ?_⟩
    rintro σ k ⟨⟨i, s⟩, ⟨hi, hS⟩, rfl, rfl⟩
    simp only at hi hS ⊢
    refine ⟨_, Weak.refl _, ?_⟩
    (conv => whnf)
    (split <;> rename_i h3 <;> (try simp only [decide_eq_true_eq, decide_eq_false_iff_not, Bool.not_eq_true', Bool.not_eq_false', Bool.not_eq_true, Bool.not_eq_false, List.length_map] at h3) <;> conv => whnf)
    · have hsc := hRs i
      rw [← hS] at hsc
      obtain ⟨a, b1, c, d, e, f, g, h⟩ := s
      dsimp only
      have hlt : i < 64 := by omega
      refine ⟨0, rfl, by decide, ?_⟩; (conv => whnf)
      refine ⟨1, rfl, by decide, ?_⟩; (conv => whnf)
      refine ⟨2, rfl, by decide, ?_⟩; (conv => whnf)
      refine ⟨4, rfl, by decide, ?_⟩; (conv => whnf)
      refine ⟨5, rfl, by decide, ?_⟩; (conv => whnf)
      refine ⟨6, rfl, by decide, ?_⟩; (conv => whnf)
      refine ⟨7, rfl, by decide, ?_⟩; (conv => whnf)
      refine ⟨_, _, right_c e 6 (by decide) (by decide), (by repeat' (first | exact lends_nil | exact lend_dead | apply lends_cons | apply lend_agg | apply lend_one | exact all2_nil | apply all2_cons | exact la_lit rfl | exact la_int (by first | rfl | omega) | exact la_row rfl rfl | exact la_loc rfl rfl rfl (by first | rfl | simp [mkL_length]) (by first | rfl | simp) | exact la_nil rfl | apply la_fn rfl | exact lend_same rfl rfl | exact lend_bor rfl rfl)), ?_⟩; (conv => whnf)
      refine ⟨_, _, right_c e 11 (by decide) (by decide), (by repeat' (first | exact lends_nil | exact lend_dead | apply lends_cons | apply lend_agg | apply lend_one | exact all2_nil | apply all2_cons | exact la_lit rfl | exact la_int (by first | rfl | omega) | exact la_row rfl rfl | exact la_loc rfl rfl rfl (by first | rfl | simp [mkL_length]) (by first | rfl | simp) | exact la_nil rfl | apply la_fn rfl | exact lend_same rfl rfl | exact lend_bor rfl rfl)), ?_⟩; (conv => whnf)
      refine ⟨_, _, right_c e 25 (by decide) (by decide), (by repeat' (first | exact lends_nil | exact lend_dead | apply lends_cons | apply lend_agg | apply lend_one | exact all2_nil | apply all2_cons | exact la_lit rfl | exact la_int (by first | rfl | omega) | exact la_row rfl rfl | exact la_loc rfl rfl rfl (by first | rfl | simp [mkL_length]) (by first | rfl | simp) | exact la_nil rfl | apply la_fn rfl | exact lend_same rfl rfl | exact lend_bor rfl rfl)), ?_⟩; (conv => whnf)
      refine ⟨((h + bs1 e).toNat : Int), by rw [← u32_add]; simp only [u32_xor, bs1], ?_⟩; (conv => whnf)
      refine ⟨((h + bs1 e + chW e f g).toNat : Int), by rw [← u32_add (_ + _)]; simp only [u32_xor, u32_and, u32_not', chW], ?_⟩; (conv => whnf)
      refine ⟨i, rfl, hlt, ?_⟩; (conv => whnf)
      (refine dec_ok (mk1c (roots_at hlt)) ?_; rw [mkg (roots_at hlt)]; conv => whnf)
      refine ⟨_, (u32_add _ _).symm, ?_⟩; (conv => whnf)
      refine ⟨i, rfl, hlt, ?_⟩; (conv => whnf)
      (refine dec_ok (mk1c (get_map (l := W) (i := i) (by omega))) ?_; rw [mk1 (get_map (l := W) (i := i) (by omega))]; conv => whnf)
      refine ⟨_, (u32_add _ _).symm, ?_⟩; (conv => whnf)
      refine ⟨_, _, right_c a 2 (by decide) (by decide), (by repeat' (first | exact lends_nil | exact lend_dead | apply lends_cons | apply lend_agg | apply lend_one | exact all2_nil | apply all2_cons | exact la_lit rfl | exact la_int (by first | rfl | omega) | exact la_row rfl rfl | exact la_loc rfl rfl rfl (by first | rfl | simp [mkL_length]) (by first | rfl | simp) | exact la_nil rfl | apply la_fn rfl | exact lend_same rfl rfl | exact lend_bor rfl rfl)), ?_⟩; (conv => whnf)
      refine ⟨_, _, right_c a 13 (by decide) (by decide), (by repeat' (first | exact lends_nil | exact lend_dead | apply lends_cons | apply lend_agg | apply lend_one | exact all2_nil | apply all2_cons | exact la_lit rfl | exact la_int (by first | rfl | omega) | exact la_row rfl rfl | exact la_loc rfl rfl rfl (by first | rfl | simp [mkL_length]) (by first | rfl | simp) | exact la_nil rfl | apply la_fn rfl | exact lend_same rfl rfl | exact lend_bor rfl rfl)), ?_⟩; (conv => whnf)
      refine ⟨_, _, right_c a 22 (by decide) (by decide), (by repeat' (first | exact lends_nil | exact lend_dead | apply lends_cons | apply lend_agg | apply lend_one | exact all2_nil | apply all2_cons | exact la_lit rfl | exact la_int (by first | rfl | omega) | exact la_row rfl rfl | exact la_loc rfl rfl rfl (by first | rfl | simp [mkL_length]) (by first | rfl | simp) | exact la_nil rfl | apply la_fn rfl | exact lend_same rfl rfl | exact lend_bor rfl rfl)), ?_⟩; (conv => whnf)
      refine ⟨((bs0 a + majW a b1 c).toNat : Int), by rw [← u32_add]; simp only [u32_xor, u32_and, bs0, majW], ?_⟩; (conv => whnf)
      refine ⟨_, (u32_add _ _).symm, ?_⟩; (conv => whnf)
      refine ⟨3, rfl, by decide, ?_⟩; (conv => whnf)
      refine ⟨_, (u32_add _ _).symm, ?_⟩; (conv => whnf)
      (refine ⟨((i + 1 : Nat) : Int), by rw [← wrap64_id] <;> omega, ?_⟩; conv => whnf)
      exact lg_back ((i + 1, rnd ⟨a, b1, c, d, e, f, g, h⟩ (keysL.getD i 0) (W.getD i 0)) : Nat × S8) ⟨by show i + 1 ≤ 64; omega, hsc.symm⟩ (by (try dsimp only); omega) (weak_of (by repeat (first | refine all_cons (by first | rfl | exact eq_int rfl (by first | rfl | omega | (simp; done) | (simp; omega)) | exact eq_loc rfl (by first | rfl | omega | (simp; done) | (simp; omega)) | exact eq_bool rfl (by simp_all)) ?_ | exact all_nil)) (by repeat (first | refine all_cons (by first | rfl | exact eq_int rfl (by first | rfl | omega | (simp; done) | (simp; omega)) | exact eq_loc rfl (by first | rfl | omega | (simp; done) | (simp; omega)) | exact eq_bool rfl (by simp_all)) ?_ | exact all_nil)) rfl (by repeat (first | exact onm_nil | refine onm_cons (by first | rfl | exact var_only _) ?_)))
    · have : i = 64 := by omega
      subst this
      rw [← hS]
      obtain ⟨a, b1, c, d, e, f, g, h⟩ := s
      dsimp only
      (conv => whnf)
      obtain ⟨L, hL⟩ : ∃ L, L = [s0, s1, s2, s3, s4, s5, s6, s7] := ⟨_, rfl⟩
      obtain ⟨V, hV⟩ : ∃ V, V = [a, b1, c, d, e, f, g, h] := ⟨_, rfl⟩
      have hLl : L.length = 8 := by rw [hL]; rfl
      have hVl : V.length = 8 := by rw [hV]; rfl
      refine ⟨LG (fun i : Nat => i ≤ 8) (fun i => 8 - i) (fun i => AS.of [(2, .one (.ptr 32 0)), (4, .one (.ptr 64 0)), (10, .one (.ptr 160 0)), (161, .one (.lit (.int .i64 (i : Nat))))] [(32, .var (((addW L V).take i ++ L.drop i).map eV)), (64, .var zero8), (160, .var (V.map eV))]),
        lg_init 0 (by omega) (weak_of (by repeat (first | refine all_cons (by first | rfl | exact eq_int rfl (by first | rfl | omega | (simp; done) | (simp; omega)) | exact eq_loc rfl (by first | rfl | omega | (simp; done) | (simp; omega)) | exact eq_bool rfl (by simp_all)) ?_ | exact all_nil)) (all_cons (eq_var rfl (by rw [hL]; rfl)) (all_cons rfl (all_cons (eq_var rfl (by rw [hV]; rfl)) all_nil))) rfl (by repeat (first | exact onm_nil | refine onm_cons (by first | rfl | exact var_only _) ?_))), ?_⟩
      have hAl : (addW L V).length = 8 := by simp [addW, hLl, hVl]
      rintro σ k ⟨i, hi, rfl, rfl⟩
      have hxl : ((addW L V).take i ++ L.drop i).length = 8 := by simp [hAl, hLl]; omega
      refine ⟨_, Weak.refl _, ?_⟩
      (conv => whnf)
      (split <;> rename_i h4 <;> (try simp only [decide_eq_true_eq, decide_eq_false_iff_not, Bool.not_eq_true', Bool.not_eq_false', Bool.not_eq_true, Bool.not_eq_false, List.length_map] at h4) <;> conv => whnf)
      · have hi8 : i < 8 := by omega
        have hg1 := get_step (A := addW L V) (L := L) (i := i) (by omega) (by omega)
        have hsx := set_step (A := addW L V) (L := L) (i := i) (x := L[i]'(by omega) + V[i]'(by omega)) (by omega) (by omega) (by simp [addW])
        have g1 := get_map (l := (addW L V).take i ++ L.drop i) (i := i) (by omega)
        have g2 := get_map (l := V) (i := i) (by omega)
        rw [hg1] at g1
        rw [getD_at (by omega)] at g2
        refine ⟨i, rfl, hi8, ?_⟩; (conv => whnf)
        (refine dec_ok (mk1c g1) ?_; rw [mk1 g1]; conv => whnf)
        refine ⟨i, rfl, hi8, ?_⟩; (conv => whnf)
        (refine dec_ok (mk1c g2) ?_; rw [mk1 g2]; conv => whnf)
        refine ⟨_, (u32_add _ _).symm, ?_⟩; (conv => whnf)
        refine ⟨i, rfl, hi8, ?_⟩; (conv => whnf)
        refine dec_ok (by rw [List.length_map]; omega) ?_; (conv => whnf)
        (refine ⟨((i + 1 : Nat) : Int), by rw [← wrap64_id] <;> omega, ?_⟩; conv => whnf)
        exact lg_back (i + 1) (by omega) (by (try dsimp only); omega) (weak_of (by repeat (first | refine all_cons (by first | rfl | exact eq_int rfl (by first | rfl | omega | (simp; done) | (simp; omega)) | exact eq_loc rfl (by first | rfl | omega | (simp; done) | (simp; omega)) | exact eq_bool rfl (by simp_all)) ?_ | exact all_nil)) (all_cons (eq_var rfl (by rw [splice_one (v := L[i]'(by omega) + V[i]'(by omega)) (by omega) rfl, hsx])) (all_cons rfl (all_cons rfl all_nil))) rfl (by repeat (first | exact onm_nil | refine onm_cons (by first | rfl | exact var_only _) ?_)))
      · have : i = 8 := by omega
        subst this
        have he : (addW L V).take 8 ++ L.drop 8 = addW L V := by rw [List.take_of_length_le (by omega), List.drop_eq_nil_of_le (by omega), List.append_nil]
        rw [he]
        subst hL hV
        (conv => whnf)
        exact ⟨close_int rfl, close_int rfl, close_int rfl, close_int rfl, close_int rfl, close_int rfl, close_int rfl, close_int rfl, trivial⟩
end Go.Proofs.YtdbnppipgblajaaGreatDoor
namespace Go.Proofs.YtdbnppipgblajaaGreatDoor
open Go.RowKit
set_option linter.unusedSimpArgs false
set_option linter.unusedVariables false
set_option maxRecDepth 100000
abbrev vN (n : Nat) : AV := .lit (.int .i64 (n : Int))
def mulI (R : Nat) (p : Nat × Nat × Nat × Nat) : Prop := p.2.2.1 < 2 ^ p.1 ∧ p.2.1 < 256 ∧ p.2.2.1 < 256 ∧ p.2.2.2 < 256 ∧ mulG p.1 p.2.1 p.2.2.1 p.2.2.2 = R
theorem mulI_step {R n x y o : Nat} (h : mulI R (n, x, y, o)) (hy : 0 < y) : ∃ m, n = m + 1 ∧ mulI R (m, dblN x, y / 2, if y % 2 = 1 then o ^^^ x else o) := by
  obtain ⟨h1, h2, h3, h4, h5⟩ := h
  simp only at h1 h2 h3 h4 h5
  cases n with
  | zero => simp at h1; omega
  | succ m =>
    refine ⟨m, rfl, by show y / 2 < 2 ^ m; rw [Nat.pow_succ] at h1; omega, dblN_lt h2, by show y / 2 < 256; omega, ?_, h5⟩
    show (if y % 2 = 1 then o ^^^ x else o) < 256
    split
    · exact xor256 h4 h2
    · exact h4
theorem mulI_end {R n x o : Nat} (h : mulI R (n, x, 0, o)) : o = R := by
  obtain ⟨_, _, _, _, h5⟩ := h
  rw [← h5]; exact (mulG_zero _ _ _).symm
theorem shl1N {x : Nat} (h : x < 4611686018427387904) : IntKind.i64.wrap ((x : Int) * 2 ^ (min (Int.toNat 1) 64)) = ((2 * x : Nat) : Int) := by
  rw [show ((x : Int) * 2 ^ (min (Int.toNat 1) 64)) = ((2 * x : Nat) : Int) by simp; omega]; exact wrapN (by omega)
theorem shr1N (x : Nat) : (x : Int).fdiv (2 ^ (min (Int.toNat 1) 64)) = ((x / 2 : Nat) : Int) := by
  rw [show ((2 : Int) ^ (min (Int.toNat 1) 64)) = 2 by decide, Int.fdiv_eq_ediv_of_nonneg _ (by omega)]; omega
theorem mulImpl_c {a b : Nat} (ha : a < 256) (hb : b < 256) : Fun1 Tryz.prog 92 [.one (vN a), .one (vN b)] (.one (vN (mulN a b))) := by
  refine fun1_of_vc tb_ok mix (fn := Tryz.f92) Tryz.func92 rfl (by kernel_rfl) (by kernel_rfl) (by simp [Tryz.f92]) (by rfl) ?_
  (conv => whnf)
  refine ⟨LG (mulI (mulN a b)) (fun p => p.2.2.1) (fun p => AS.of [(0, .one (vN p.2.1)), (1, .one (vN p.2.2.1)), (5, .one (vN p.2.2.2))] []), lg_init (8, a, b, 0) ⟨by show b < 2 ^ 8; omega, ha, hb, by show (0 : Nat) < 256; decide, rfl⟩ (weak_of (by repeat (first | refine all_cons (by first | rfl | exact eq_int rfl (by first | rfl | omega | (simp; done) | (simp; omega)) | exact eq_loc rfl (by first | rfl | omega | (simp; done) | (simp; omega)) | exact eq_bool rfl (by simp_all)) ?_ | exact all_nil)) (by repeat (first | refine all_cons (by first | rfl | exact eq_int rfl (by first | rfl | omega | (simp; done) | (simp; omega)) | exact eq_loc rfl (by first | rfl | omega | (simp; done) | (simp; omega)) | exact eq_bool rfl (by simp_all)) ?_ | exact all_nil)) rfl rfl), ?_⟩
  rintro σ k ⟨⟨n, x, y, o⟩, hI, hk, rfl⟩
  have ⟨h1, h2, h3, h4, h5⟩ := hI
  simp only at h1 h2 h3 h4 h5 hk
  refine ⟨_, Weak.refl _, ?_⟩
  (conv => whnf)
  (split <;> rename_i h <;> (try simp only [decide_eq_true_eq, decide_eq_false_iff_not, Bool.not_eq_true', Bool.not_eq_false', Bool.not_eq_true, Bool.not_eq_false, List.length_map] at h) <;> conv => whnf)
  · obtain ⟨m, rfl, hI'⟩ := mulI_step hI (by omega)
    have hand := and1N (b := y) (by omega)
    have key : ∀ σ' : AS, ∀ o' : Nat, o' = (if y % 2 = 1 then o ^^^ x else o) → Weak σ' (AS.of [(0, .one (vN (dblN x))), (1, .one (vN (y / 2))), (5, .one (vN o'))] []) → ∃ σ1 k', Weak σ' σ1 ∧ k' < k ∧ LG (mulI (mulN a b)) (fun p => p.2.2.1) (fun p => AS.of [(0, .one (vN p.2.1)), (1, .one (vN p.2.2.1)), (5, .one (vN p.2.2.2))] []) σ1 k' := by
      rintro σ' _ rfl hw
      exact lg_back (m, dblN x, y / 2, if y % 2 = 1 then o ^^^ x else o) hI' (by show y / 2 < k; omega) hw
    (split <;> rename_i h6 <;> (try simp only [decide_eq_true_eq, decide_eq_false_iff_not, Bool.not_eq_true', Bool.not_eq_false', Bool.not_eq_true, Bool.not_eq_false, List.length_map] at h6) <;> conv => whnf) <;> (refine ⟨by decide, _, (shl1N (x := x) (by omega)).symm, ?_⟩; (conv => whnf)) <;> (split <;> rename_i h7 <;> (try simp only [decide_eq_true_eq, decide_eq_false_iff_not, Bool.not_eq_true', Bool.not_eq_false', Bool.not_eq_true, Bool.not_eq_false, List.length_map] at h7) <;> conv => whnf) <;> (refine ⟨by decide, _, (shr1N y).symm, ?_⟩; (conv => whnf))
    all_goals rw [hand] at h6
    · exact key _ (o ^^^ x) (by rw [if_pos (by omega)]) (weak_of (all_cons (eq_int rfl (by rw [show (285 : Int) = ((285 : Nat) : Int) from rfl, xorN (by (try dsimp only); omega) (by (try dsimp only); omega), dblN, if_pos (by omega)])) (all_cons rfl (all_cons (eq_int rfl (xorN (by (try dsimp only); omega) (by (try dsimp only); omega))) all_nil))) all_nil rfl rfl)
    · exact key _ (o ^^^ x) (by rw [if_pos (by omega)]) (weak_of (all_cons (eq_int rfl (by rw [dblN, if_neg (by omega)])) (all_cons rfl (all_cons (eq_int rfl (xorN (by (try dsimp only); omega) (by (try dsimp only); omega))) all_nil))) all_nil rfl rfl)
    · exact key _ o (by rw [if_neg (by omega)]) (weak_of (all_cons (eq_int rfl (by rw [show (285 : Int) = ((285 : Nat) : Int) from rfl, xorN (by (try dsimp only); omega) (by (try dsimp only); omega), dblN, if_pos (by omega)])) (all_cons rfl (all_cons rfl all_nil))) all_nil rfl rfl)
    · exact key _ o (by rw [if_neg (by omega)]) (weak_of (all_cons (eq_int rfl (by rw [dblN, if_neg (by omega)])) (all_cons rfl (all_cons rfl all_nil))) all_nil rfl rfl)
  · obtain rfl : y = 0 := by omega
    exact ⟨close_int (by rw [mulI_end hI]), trivial⟩
theorem tmod2N (y : Nat) : ((y % 2 : Nat) : Int) = (y : Int).tmod 2 := by rw [Int.tmod_eq_emod_of_nonneg (by omega)]; omega
theorem tdiv2N {y : Nat} (h : y < 9223372036854775808) : ((y / 2 : Nat) : Int) = IntKind.i64.wrap ((y : Int).tdiv 2) := by
  rw [show (y : Int).tdiv 2 = ((y / 2 : Nat) : Int) by rw [Int.tdiv_eq_ediv_of_nonneg (by omega)]; omega]
  exact (wrapN (by omega)).symm
theorem mul2N {x : Nat} (h : x < 4611686018427387904) : ((2 * x : Nat) : Int) = IntKind.i64.wrap (2 * (x : Int)) := by
  rw [show (2 * (x : Int)) = ((2 * x : Nat) : Int) by omega]; exact (wrapN (by omega)).symm
theorem mulSpec_c {a b : Nat} (ha : a < 256) (hb : b < 256) : Fun1 Tryz.prog 76 [.one (vN a), .one (vN b)] (.one (vN (mulN a b))) := by
  refine fun1_of_vc tb_ok mix (fn := Tryz.f76) Tryz.func76 rfl (by kernel_rfl) (by kernel_rfl) (by simp [Tryz.f76]) (by rfl) ?_
  (conv => whnf)
  refine ⟨LG (mulI (mulN a b)) (fun p => p.2.2.1) (fun p => AS.of [(0, .one (vN p.2.1)), (1, .one (vN p.2.2.1)), (5, .one (vN p.2.2.2))] []), lg_init (8, a, b, 0) ⟨by show b < 2 ^ 8; omega, ha, hb, by show (0 : Nat) < 256; decide, rfl⟩ (weak_of (by repeat (first | refine all_cons (by first | rfl | exact eq_int rfl (by first | rfl | omega | (simp; done) | (simp; omega)) | exact eq_loc rfl (by first | rfl | omega | (simp; done) | (simp; omega)) | exact eq_bool rfl (by simp_all)) ?_ | exact all_nil)) (by repeat (first | refine all_cons (by first | rfl | exact eq_int rfl (by first | rfl | omega | (simp; done) | (simp; omega)) | exact eq_loc rfl (by first | rfl | omega | (simp; done) | (simp; omega)) | exact eq_bool rfl (by simp_all)) ?_ | exact all_nil)) rfl rfl), ?_⟩
  rintro σ k ⟨⟨n, x, y, o⟩, hI, hk, rfl⟩
  have ⟨h1, h2, h3, h4, h5⟩ := hI
  simp only at h1 h2 h3 h4 h5 hk
  refine ⟨_, Weak.refl _, ?_⟩
  (conv => whnf)
  (split <;> rename_i h <;> (try simp only [decide_eq_true_eq, decide_eq_false_iff_not, Bool.not_eq_true', Bool.not_eq_false', Bool.not_eq_true, Bool.not_eq_false, List.length_map] at h) <;> conv => whnf)
  · obtain ⟨m, rfl, hI'⟩ := mulI_step hI (by omega)
    have key : ∀ σ' : AS, ∀ o' : Nat, o' = (if y % 2 = 1 then o ^^^ x else o) → Weak σ' (AS.of [(0, .one (vN (dblN x))), (1, .one (vN (y / 2))), (5, .one (vN o'))] []) → ∃ σ1 k', Weak σ' σ1 ∧ k' < k ∧ LG (mulI (mulN a b)) (fun p => p.2.2.1) (fun p => AS.of [(0, .one (vN p.2.1)), (1, .one (vN p.2.2.1)), (5, .one (vN p.2.2.2))] []) σ1 k' := by
      rintro σ' _ rfl hw
      exact lg_back (m, dblN x, y / 2, if y % 2 = 1 then o ^^^ x else o) hI' (by show y / 2 < k; omega) hw
    refine ⟨by decide, _, tmod2N y, ?_⟩; (conv => whnf)
    (split <;> rename_i h6 <;> (try simp only [decide_eq_true_eq, decide_eq_false_iff_not, Bool.not_eq_true', Bool.not_eq_false', Bool.not_eq_true, Bool.not_eq_false, List.length_map] at h6) <;> conv => whnf) <;> (refine ⟨_, mul2N (x := x) (by omega), ?_⟩; (conv => whnf)) <;> (split <;> rename_i h7 <;> (try simp only [decide_eq_true_eq, decide_eq_false_iff_not, Bool.not_eq_true', Bool.not_eq_false', Bool.not_eq_true, Bool.not_eq_false, List.length_map] at h7) <;> conv => whnf) <;> (refine ⟨by decide, _, tdiv2N (y := y) (by omega), ?_⟩; (conv => whnf))
    · exact key _ (o ^^^ x) (by rw [if_pos (by omega)]) (weak_of (all_cons (eq_int rfl (by rw [show (285 : Int) = ((285 : Nat) : Int) from rfl, xorN (by (try dsimp only); omega) (by (try dsimp only); omega), dblN, if_pos (by omega)])) (all_cons rfl (all_cons (eq_int rfl (xorN (by (try dsimp only); omega) (by (try dsimp only); omega))) all_nil))) all_nil rfl rfl)
    · exact key _ (o ^^^ x) (by rw [if_pos (by omega)]) (weak_of (all_cons (eq_int rfl (by rw [dblN, if_neg (by omega)])) (all_cons rfl (all_cons (eq_int rfl (xorN (by (try dsimp only); omega) (by (try dsimp only); omega))) all_nil))) all_nil rfl rfl)
    · exact key _ o (by rw [if_neg (by omega)]) (weak_of (all_cons (eq_int rfl (by rw [show (285 : Int) = ((285 : Nat) : Int) from rfl, xorN (by (try dsimp only); omega) (by (try dsimp only); omega), dblN, if_pos (by omega)])) (all_cons rfl (all_cons rfl all_nil))) all_nil rfl rfl)
    · exact key _ o (by rw [if_neg (by omega)]) (weak_of (all_cons (eq_int rfl (by rw [dblN, if_neg (by omega)])) (all_cons rfl (all_cons rfl all_nil))) all_nil rfl rfl)
  · obtain rfl : y = 0 := by omega
    exact ⟨close_int (by rw [mulI_end hI]), trivial⟩
def powI (R : Nat) (p : Nat × Nat × Nat × Nat) : Prop := p.2.2.1 < 2 ^ p.1 ∧ p.2.1 < 256 ∧ p.2.2.1 < 2147483649 ∧ p.2.2.2 < 256 ∧ powG p.1 p.2.1 p.2.2.1 p.2.2.2 = R
theorem powI_step {R n x y o : Nat} (h : powI R (n, x, y, o)) (hy : 0 < y) : ∃ m, n = m + 1 ∧ powI R (m, mulN x x, y / 2, if y % 2 = 1 then mulN o x else o) := by
  obtain ⟨h1, h2, h3, h4, h5⟩ := h
  simp only at h1 h2 h3 h4 h5
  cases n with
  | zero => simp at h1; omega
  | succ m =>
    refine ⟨m, rfl, by show y / 2 < 2 ^ m; rw [Nat.pow_succ] at h1; omega, mulN_lt h2, by show y / 2 < 2147483649; omega, ?_, h5⟩
    show (if y % 2 = 1 then mulN o x else o) < 256
    split
    · exact mulN_lt h4
    · exact h4
theorem powI_end {R n x o : Nat} (h : powI R (n, x, 0, o)) : o = R := by
  obtain ⟨_, _, _, _, h5⟩ := h
  rw [← h5]; exact (powG_zero _ _ _).symm
theorem powImpl_c (n0 : Nat) {a b : Nat} (ha : a < 256) (hb : b < 2147483649) (hn : b < 2 ^ n0) : Fun1 Tryz.prog 111 [.one (vN a), .one (vN b)] (.one (vN (powG n0 a b 1))) := by
  refine fun1_of_vc tb_ok mix (fn := Tryz.f111) Tryz.func111 rfl (by kernel_rfl) (by kernel_rfl) (by simp [Tryz.f111]) (by rfl) ?_
  (conv => whnf)
  refine ⟨LG (powI (powG n0 a b 1)) (fun p => p.2.2.1) (fun p => AS.of [(0, .one (vN p.2.1)), (1, .one (vN p.2.2.1)), (5, .one (vN p.2.2.2))] []), lg_init (n0, a, b, 1) ⟨hn, ha, hb, by show (1 : Nat) < 256; decide, rfl⟩ (weak_of (by repeat (first | refine all_cons (by first | rfl | exact eq_int rfl (by first | rfl | omega | (simp; done) | (simp; omega)) | exact eq_loc rfl (by first | rfl | omega | (simp; done) | (simp; omega)) | exact eq_bool rfl (by simp_all)) ?_ | exact all_nil)) (by repeat (first | refine all_cons (by first | rfl | exact eq_int rfl (by first | rfl | omega | (simp; done) | (simp; omega)) | exact eq_loc rfl (by first | rfl | omega | (simp; done) | (simp; omega)) | exact eq_bool rfl (by simp_all)) ?_ | exact all_nil)) rfl rfl), ?_⟩
  rintro σ k ⟨⟨n, x, y, o⟩, hI, hk, rfl⟩
  have ⟨h1, h2, h3, h4, h5⟩ := hI
  simp only at h1 h2 h3 h4 h5 hk
  refine ⟨_, Weak.refl _, ?_⟩
  (conv => whnf)
  (split <;> rename_i h <;> (try simp only [decide_eq_true_eq, decide_eq_false_iff_not, Bool.not_eq_true', Bool.not_eq_false', Bool.not_eq_true, Bool.not_eq_false, List.length_map] at h) <;> conv => whnf)
  · obtain ⟨m, rfl, hI'⟩ := powI_step hI (by omega)
    have hand := and1N (b := y) (by omega)
    (split <;> rename_i h6 <;> (try simp only [decide_eq_true_eq, decide_eq_false_iff_not, Bool.not_eq_true', Bool.not_eq_false', Bool.not_eq_true, Bool.not_eq_false, List.length_map] at h6) <;> conv => whnf) <;> rw [hand] at h6
    · rw [if_pos (by omega)] at hI'
      refine ⟨_, _, mulImpl_c h4 h2, (by repeat' (first | exact lends_nil | exact lend_dead | apply lends_cons | apply lend_agg | apply lend_one | exact all2_nil | apply all2_cons | exact la_lit rfl | exact la_int (by first | rfl | omega) | exact la_row rfl rfl | exact la_loc rfl rfl rfl (by first | rfl | simp [mkL_length]) (by first | rfl | simp) | exact la_nil rfl | apply la_fn rfl | exact lend_same rfl rfl | exact lend_bor rfl rfl)), ?_⟩; (conv => whnf)
      refine ⟨_, _, mulImpl_c h2 h2, (by repeat' (first | exact lends_nil | exact lend_dead | apply lends_cons | apply lend_agg | apply lend_one | exact all2_nil | apply all2_cons | exact la_lit rfl | exact la_int (by first | rfl | omega) | exact la_row rfl rfl | exact la_loc rfl rfl rfl (by first | rfl | simp [mkL_length]) (by first | rfl | simp) | exact la_nil rfl | apply la_fn rfl | exact lend_same rfl rfl | exact lend_bor rfl rfl)), ?_⟩; (conv => whnf)
      refine ⟨by decide, _, (shr1N y).symm, ?_⟩; (conv => whnf)
      exact lg_back (m, mulN x x, y / 2, mulN o x) hI' (by show y / 2 < k; omega) (weak_of (by repeat (first | refine all_cons (by first | rfl | exact eq_int rfl (by first | rfl | omega | (simp; done) | (simp; omega)) | exact eq_loc rfl (by first | rfl | omega | (simp; done) | (simp; omega)) | exact eq_bool rfl (by simp_all)) ?_ | exact all_nil)) (by repeat (first | refine all_cons (by first | rfl | exact eq_int rfl (by first | rfl | omega | (simp; done) | (simp; omega)) | exact eq_loc rfl (by first | rfl | omega | (simp; done) | (simp; omega)) | exact eq_bool rfl (by simp_all)) ?_ | exact all_nil)) rfl rfl)
    · rw [if_neg (by omega)] at hI'
      refine ⟨_, _, mulImpl_c h2 h2, (by repeat' (first | exact lends_nil | exact lend_dead | apply lends_cons | apply lend_agg | apply lend_one | exact all2_nil | apply all2_cons | exact la_lit rfl | exact la_int (by first | rfl | omega) | exact la_row rfl rfl | exact la_loc rfl rfl rfl (by first | rfl | simp [mkL_length]) (by first | rfl | simp) | exact la_nil rfl | apply la_fn rfl | exact lend_same rfl rfl | exact lend_bor rfl rfl)), ?_⟩; (conv => whnf)
      refine ⟨by decide, _, (shr1N y).symm, ?_⟩; (conv => whnf)
      exact lg_back (m, mulN x x, y / 2, o) hI' (by show y / 2 < k; omega) (weak_of (by repeat (first | refine all_cons (by first | rfl | exact eq_int rfl (by first | rfl | omega | (simp; done) | (simp; omega)) | exact eq_loc rfl (by first | rfl | omega | (simp; done) | (simp; omega)) | exact eq_bool rfl (by simp_all)) ?_ | exact all_nil)) (by repeat (first | refine all_cons (by first | rfl | exact eq_int rfl (by first | rfl | omega | (simp; done) | (simp; omega)) | exact eq_loc rfl (by first | rfl | omega | (simp; done) | (simp; omega)) | exact eq_bool rfl (by simp_all)) ?_ | exact all_nil)) rfl rfl)
  · obtain rfl : y = 0 := by omega
    exact ⟨close_int (by rw [powI_end hI]), trivial⟩
theorem powSpec_c (n0 : Nat) {a b : Nat} (ha : a < 256) (hb : b < 2147483649) (hn : b < 2 ^ n0) : Fun1 Tryz.prog 101 [.one (vN a), .one (vN b)] (.one (vN (powG n0 a b 1))) := by
  refine fun1_of_vc tb_ok mix (fn := Tryz.f101) Tryz.func101 rfl (by kernel_rfl) (by kernel_rfl) (by simp [Tryz.f101]) (by rfl) ?_
  (conv => whnf)
  refine ⟨LG (powI (powG n0 a b 1)) (fun p => p.2.2.1) (fun p => AS.of [(0, .one (vN p.2.1)), (1, .one (vN p.2.2.1)), (5, .one (vN p.2.2.2))] []), lg_init (n0, a, b, 1) ⟨hn, ha, hb, by show (1 : Nat) < 256; decide, rfl⟩ (weak_of (by repeat (first | refine all_cons (by first | rfl | exact eq_int rfl (by first | rfl | omega | (simp; done) | (simp; omega)) | exact eq_loc rfl (by first | rfl | omega | (simp; done) | (simp; omega)) | exact eq_bool rfl (by simp_all)) ?_ | exact all_nil)) (by repeat (first | refine all_cons (by first | rfl | exact eq_int rfl (by first | rfl | omega | (simp; done) | (simp; omega)) | exact eq_loc rfl (by first | rfl | omega | (simp; done) | (simp; omega)) | exact eq_bool rfl (by simp_all)) ?_ | exact all_nil)) rfl rfl), ?_⟩
  rintro σ k ⟨⟨n, x, y, o⟩, hI, hk, rfl⟩
  have ⟨h1, h2, h3, h4, h5⟩ := hI
  simp only at h1 h2 h3 h4 h5 hk
  refine ⟨_, Weak.refl _, ?_⟩
  (conv => whnf)
  (split <;> rename_i h <;> (try simp only [decide_eq_true_eq, decide_eq_false_iff_not, Bool.not_eq_true', Bool.not_eq_false', Bool.not_eq_true, Bool.not_eq_false, List.length_map] at h) <;> conv => whnf)
  · obtain ⟨m, rfl, hI'⟩ := powI_step hI (by omega)
    refine ⟨by decide, _, tmod2N y, ?_⟩; (conv => whnf)
    (split <;> rename_i h6 <;> (try simp only [decide_eq_true_eq, decide_eq_false_iff_not, Bool.not_eq_true', Bool.not_eq_false', Bool.not_eq_true, Bool.not_eq_false, List.length_map] at h6) <;> conv => whnf)
    · rw [if_pos (by omega)] at hI'
      refine ⟨_, _, mulSpec_c h4 h2, (by repeat' (first | exact lends_nil | exact lend_dead | apply lends_cons | apply lend_agg | apply lend_one | exact all2_nil | apply all2_cons | exact la_lit rfl | exact la_int (by first | rfl | omega) | exact la_row rfl rfl | exact la_loc rfl rfl rfl (by first | rfl | simp [mkL_length]) (by first | rfl | simp) | exact la_nil rfl | apply la_fn rfl | exact lend_same rfl rfl | exact lend_bor rfl rfl)), ?_⟩; (conv => whnf)
      refine ⟨_, _, mulSpec_c h2 h2, (by repeat' (first | exact lends_nil | exact lend_dead | apply lends_cons | apply lend_agg | apply lend_one | exact all2_nil | apply all2_cons | exact la_lit rfl | exact la_int (by first | rfl | omega) | exact la_row rfl rfl | exact la_loc rfl rfl rfl (by first | rfl | simp [mkL_length]) (by first | rfl | simp) | exact la_nil rfl | apply la_fn rfl | exact lend_same rfl rfl | exact lend_bor rfl rfl)), ?_⟩; (conv => whnf)
      refine ⟨by decide, _, tdiv2N (y := y) (by omega), ?_⟩; (conv => whnf)
      exact lg_back (m, mulN x x, y / 2, mulN o x) hI' (by show y / 2 < k; omega) (weak_of (by repeat (first | refine all_cons (by first | rfl | exact eq_int rfl (by first | rfl | omega | (simp; done) | (simp; omega)) | exact eq_loc rfl (by first | rfl | omega | (simp; done) | (simp; omega)) | exact eq_bool rfl (by simp_all)) ?_ | exact all_nil)) (by repeat (first | refine all_cons (by first | rfl | exact eq_int rfl (by first | rfl | omega | (simp; done) | (simp; omega)) | exact eq_loc rfl (by first | rfl | omega | (simp; done) | (simp; omega)) | exact eq_bool rfl (by simp_all)) ?_ | exact all_nil)) rfl rfl)
    · rw [if_neg (by omega)] at hI'
      refine ⟨_, _, mulSpec_c h2 h2, (by repeat' (first | exact lends_nil | exact lend_dead | apply lends_cons | apply lend_agg | apply lend_one | exact all2_nil | apply all2_cons | exact la_lit rfl | exact la_int (by first | rfl | omega) | exact la_row rfl rfl | exact la_loc rfl rfl rfl (by first | rfl | simp [mkL_length]) (by first | rfl | simp) | exact la_nil rfl | apply la_fn rfl | exact lend_same rfl rfl | exact lend_bor rfl rfl)), ?_⟩; (conv => whnf)
      refine ⟨by decide, _, tdiv2N (y := y) (by omega), ?_⟩; (conv => whnf)
      exact lg_back (m, mulN x x, y / 2, o) hI' (by show y / 2 < k; omega) (weak_of (by repeat (first | refine all_cons (by first | rfl | exact eq_int rfl (by first | rfl | omega | (simp; done) | (simp; omega)) | exact eq_loc rfl (by first | rfl | omega | (simp; done) | (simp; omega)) | exact eq_bool rfl (by simp_all)) ?_ | exact all_nil)) (by repeat (first | refine all_cons (by first | rfl | exact eq_int rfl (by first | rfl | omega | (simp; done) | (simp; omega)) | exact eq_loc rfl (by first | rfl | omega | (simp; done) | (simp; omega)) | exact eq_bool rfl (by simp_all)) ?_ | exact all_nil)) rfl rfl)
  · obtain rfl : y = 0 := by omega
    exact ⟨close_int (by rw [powI_end hI]), trivial⟩
theorem invImpl_c {a : Nat} (ha : a < 256) : Fun1 Tryz.prog 94 [.one (vN a)] (.one (vN (invN a))) := by
  refine fun1_of_vc tb_ok mix (fn := Tryz.f94) Tryz.func94 rfl (by kernel_rfl) (by kernel_rfl) (by simp [Tryz.f94]) (by rfl) ?_
  (conv => whnf)
  refine ⟨_, _, powImpl_c 8 ha (by decide : 254 < 2147483649) (by decide), (by repeat' (first | exact lends_nil | exact lend_dead | apply lends_cons | apply lend_agg | apply lend_one | exact all2_nil | apply all2_cons | exact la_lit rfl | exact la_int (by first | rfl | omega) | exact la_row rfl rfl | exact la_loc rfl rfl rfl (by first | rfl | simp [mkL_length]) (by first | rfl | simp) | exact la_nil rfl | apply la_fn rfl | exact lend_same rfl rfl | exact lend_bor rfl rfl)), ?_⟩; (conv => whnf)
  exact ⟨close_int rfl, trivial⟩
theorem fieldInv_c {a : Nat} (ha : a < 256) : Fun1 Tryz.prog 79 [.one (vN a)] (.one (vN (invN a))) := by
  refine fun1_of_vc tb_ok mix (fn := Tryz.f79) Tryz.func79 rfl (by kernel_rfl) (by kernel_rfl) (by simp [Tryz.f79]) (by rfl) ?_
  (conv => whnf)
  refine ⟨_, _, l02Byte_c a, (by repeat' (first | exact lends_nil | exact lend_dead | apply lends_cons | apply lend_agg | apply lend_one | exact all2_nil | apply all2_cons | exact la_lit rfl | exact la_int (by first | rfl | omega) | exact la_row rfl rfl | exact la_loc rfl rfl rfl (by first | rfl | simp [mkL_length]) (by first | rfl | simp) | exact la_nil rfl | apply la_fn rfl | exact lend_same rfl rfl | exact lend_bor rfl rfl)), ?_⟩
  rw [show (decide ((0 : Int) ≤ (a : Int)) && decide ((a : Int) ≤ 255)) = true by simp; omega]
  (conv => whnf)
  (split <;> rename_i h <;> (try simp only [decide_eq_true_eq, decide_eq_false_iff_not, Bool.not_eq_true', Bool.not_eq_false', Bool.not_eq_true, Bool.not_eq_false, List.length_map] at h) <;> conv => whnf)
  · obtain rfl : a = 0 := by omega
    exact ⟨close_int (by rw [invN_zero]; rfl), trivial⟩
  · refine ⟨_, _, powSpec_c 8 ha (by decide : 254 < 2147483649) (by decide), (by repeat' (first | exact lends_nil | exact lend_dead | apply lends_cons | apply lend_agg | apply lend_one | exact all2_nil | apply all2_cons | exact la_lit rfl | exact la_int (by first | rfl | omega) | exact la_row rfl rfl | exact la_loc rfl rfl rfl (by first | rfl | simp [mkL_length]) (by first | rfl | simp) | exact la_nil rfl | apply la_fn rfl | exact lend_same rfl rfl | exact lend_bor rfl rfl)), ?_⟩; (conv => whnf)
    exact ⟨close_int rfl, trivial⟩
end Go.Proofs.YtdbnppipgblajaaGreatDoor
namespace Go.Proofs.YtdbnppipgblajaaGreatDoor
open Go.RowKit
set_option linter.unusedSimpArgs false
set_option linter.unusedVariables false
set_option maxRecDepth 100000
def repLay_ren : Go.Shelf.Ren := ⟨fun | 105 => 89 | 212 => 106 | 99 => 43 | 165 => 107 | 166 => 108 | 170 => 109 | 169 => 110 | 263 => 121 | 264 => 122 | 206 => 65 | 240 => 123 | 241 => 124 | 276 => 127 | 277 => 128 | n => n, fun | 9 => 9 | 3 => 3 | 4 => 4 | 20 => 20 | 0 => 0 | 46 => 123 | 109 => 137 | 5 => 5 | 72 => 141 | 76 => 145 | 51 => 100 | 146 => 158 | 53 => 134 | 148 => 160 | 70 => 139 | 37 => 79 | 75 => 144 | 127 => 162 | 164 => 164 | 80 => 106 | n => n, fun | n => n⟩
theorem repLay : Go.Proofs.Lays.n105 Tryz.prog repLay_ren := {
  mixed := by kernel_rfl
  f99 := Tryz.func43.trans (congrArg some (by kernel_rfl))
  f105 := Tryz.func89.trans (congrArg some (by kernel_rfl))
  f165 := Tryz.func107.trans (congrArg some (by kernel_rfl))
  f166 := Tryz.func108.trans (congrArg some (by kernel_rfl))
  f169 := Tryz.func110.trans (congrArg some (by kernel_rfl))
  f170 := Tryz.func109.trans (congrArg some (by kernel_rfl))
  f206 := Tryz.func65.trans (congrArg some (by kernel_rfl))
  f212 := Tryz.func106.trans (congrArg some (by kernel_rfl))
  f240 := Tryz.func123.trans (congrArg some (by kernel_rfl))
  f241 := Tryz.func124.trans (congrArg some (by kernel_rfl))
  f263 := Tryz.func121.trans (congrArg some (by kernel_rfl))
  f264 := Tryz.func122.trans (congrArg some (by kernel_rfl))
  f276 := Tryz.func127.trans (congrArg some (by kernel_rfl))
  f277 := Tryz.func128.trans (congrArg some (by kernel_rfl))
  t0 := Tryz.underlying0
  a0 := Tryz.isAgg0
  z0 := Tryz.sizeOf0
  v0 := Tryz.zeroValue0
  t3 := Tryz.underlying3
  a3 := Tryz.isAgg3
  z3 := Tryz.sizeOf3
  v3 := Tryz.zeroValue3
  t4 := Tryz.underlying4
  a4 := Tryz.isAgg4
  z4 := Tryz.sizeOf4
  v4 := Tryz.zeroValue4
  t5 := Tryz.underlying5
  a5 := Tryz.isAgg5
  z5 := Tryz.sizeOf5
  v5 := Tryz.zeroValue5
  t9 := Tryz.underlying9
  a9 := Tryz.isAgg9
  z9 := Tryz.sizeOf9
  v9 := Tryz.zeroValue9
  t20 := Tryz.underlying20
  a20 := Tryz.isAgg20
  z20 := Tryz.sizeOf20
  v20 := Tryz.zeroValue20
  t37 := Tryz.underlying79
  a37 := Tryz.isAgg79
  z37 := Tryz.sizeOf79
  v37 := Tryz.zeroValue79
  t46 := Tryz.underlying123
  a46 := Tryz.isAgg123
  z46 := Tryz.sizeOf123
  v46 := Tryz.zeroValue123
  t51 := Tryz.underlying100
  a51 := Tryz.isAgg100
  z51 := Tryz.sizeOf100
  v51 := Tryz.zeroValue100
  t53 := Tryz.underlying134
  a53 := Tryz.isAgg134
  z53 := Tryz.sizeOf134
  v53 := Tryz.zeroValue134
  t70 := Tryz.underlying139
  a70 := Tryz.isAgg139
  z70 := Tryz.sizeOf139
  v70 := Tryz.zeroValue139
  t72 := Tryz.underlying141
  a72 := Tryz.isAgg141
  z72 := Tryz.sizeOf141
  v72 := Tryz.zeroValue141
  t75 := Tryz.underlying144
  a75 := Tryz.isAgg144
  z75 := Tryz.sizeOf144
  v75 := Tryz.zeroValue144
  t76 := Tryz.underlying145
  a76 := Tryz.isAgg145
  z76 := Tryz.sizeOf145
  v76 := Tryz.zeroValue145
  t109 := Tryz.underlying137
  a109 := Tryz.isAgg137
  z109 := Tryz.sizeOf137
  v109 := Tryz.zeroValue137
  t127 := Tryz.underlying162
  a127 := Tryz.isAgg162
  z127 := Tryz.sizeOf162
  v127 := Tryz.zeroValue162
  t146 := Tryz.underlying158
  a146 := Tryz.isAgg158
  z146 := Tryz.sizeOf158
  v146 := Tryz.zeroValue158
  t148 := Tryz.underlying160
  a148 := Tryz.isAgg160
  z148 := Tryz.sizeOf160
  v148 := Tryz.zeroValue160
  t164 := Tryz.underlying164
  a164 := Tryz.isAgg164
  z164 := Tryz.sizeOf164
  v164 := Tryz.zeroValue164 }
theorem repX : Go.Proofs.Builder.Extra Tryz.prog repLay_ren where
  sizeBuilder := by kernel_rfl
  liesBuilder := by kernel_rfl
  t5 := repLay.t5
  a5 := repLay.a5
  z5 := repLay.z5
  v5 := repLay.v5
  infoByte := by kernel_rfl
  cellsByte := by kernel_rfl
  sizeByte := by kernel_rfl
  neB5 := by decide
theorem repeat_zero (c : Nat) : Lib.repeatL [(0 : UInt8)] c = List.replicate c 0 := by
  induction c with
  | zero => rfl
  | succ c ih => first | (rw [Lib.repeatL, ih]; rfl) | (simp [Lib.repeatL, ih, List.replicate_succ]; done)
theorem repeatZ_c (c : Nat) (hc : c ≤ 1000000) : Fun1 Tryz.prog 89 [.one (.lit (.string ⟨#[0]⟩)), .one (.lit (.int .i64 (c : Int)))] (.one (.lit (.string (txtOf (List.replicate c 0))))) := by
  refine ⟨⟨_, Tryz.func89, by kernel_rfl, by kernel_rfl⟩, rfl, fun w I vs hI _ hargs => ?_⟩
  obtain ⟨vs⟩ := vs
  match vs, hargs with
  | [x, y], hargs =>
    have hx := hargs.1.1
    have hy := hargs.2.1.1
    cases hx; cases hy
    have key := Go.Proofs.Any.strings_Repeat repLay repX ⟨#[0]⟩ c w (by omega) (by show 1 * c ≤ _; omega)
    refine key.mono ?_
    rintro e w' ⟨rfl, hb⟩
    rw [show (⟨#[(0 : UInt8)]⟩ : ByteArray).data.toList = [0] from rfl, repeat_zero]
    exact ⟨_, fun _ => False, rfl, ⟨.plain rfl (.lit _) (fun _ h => h), rfl⟩, fun _ h => h.elim, ⟨hb.os, hb.tape, hb.output, hb.size, hb.block, fun q => by cases q⟩⟩
end Go.Proofs.YtdbnppipgblajaaGreatDoor
namespace Go.Proofs.YtdbnppipgblajaaGreatDoor
/-- spec.l05More -/
def tbO82 : Tab := tbF [(1, .seq [1, 4, 6, 8, 10, 11, 0, 2, 3, 5, 7, 9, 12, 13, 14, 15])]
end Go.Proofs.YtdbnppipgblajaaGreatDoor
namespace Go.Proofs.YtdbnppipgblajaaGreatDoor
open Go.RowKit
set_option linter.unusedSimpArgs false
set_option linter.unusedVariables false
set_option maxHeartbeats 2000000

section
variable {P : Program} {w0 w : World} {L : Nat → Prop} {n : Nat} {σ : AS} {a : Act} {c : Ctx} {F : Nat → Nat → Prop} {E : Tab}

/-- An act with another's temporaries behind its own. -/
def ext (g : Array Value) (a : Act) : Act := { a with tmps := a.tmps ++ g }
/-- The state of a call that is walked in the caller's state: its own temporaries, behind them the caller's. -/
def AS.enter (σ : AS) (n : Nat) (args : List T) : AS := ⟨fun k => if k < n then args.getD k .dead else σ.tm (k - n), σ.mem⟩
end
end Go.Proofs.YtdbnppipgblajaaGreatDoor
namespace Go.Proofs.YtdbnppipgblajaaGreatDoor
open Go.RowKit
set_option linter.unusedSimpArgs false
set_option linter.unusedVariables false
set_option maxHeartbeats 2000000

def swp (a b k : Nat) : Nat := if k = a then b else if k = b then a else k
theorem swp_swp (a b k : Nat) : swp a b (swp a b k) = k := by
  unfold swp
  by_cases h1 : k = a
  · subst h1
    by_cases h2 : b = k <;> simp [h2]
  · by_cases h2 : k = b
    · subst h2; simp [h1]
    · simp [h1, h2]
theorem swp_inj {a b k l : Nat} (h : swp a b k = swp a b l) : k = l := by rw [← swp_swp a b k, h, swp_swp]
def AV.ren (a b : Nat) : AV → AV
  | .ptr s j => .ptr (swp a b s) j
  | .eptr s i j => .eptr (swp a b s) i j
  | .loc s o l => .loc (swp a b s) o l
  | .fn f [] => .fn f []
  | .fn _ _ => .dead
  | x => x
def T.ren (a b : Nat) : T → T
  | .one x => .one (x.ren a b)
  | .agg xs => .agg (xs.map (AV.ren a b))
  | .tup ts => .tup (ts.map fun t => (t.1, t.2.map (AV.ren a b)))
  | .dead => .dead
def Blk.ren (a b : Nat) : Blk → Blk
  | .var xs => .var (xs.map (AV.ren a b))
  | .row true sz es => .row true sz es
  | .row false sz es => .row false sz (es.map fun e => e.map (AV.ren a b))
  | .par v x => .par v x
  | .pin s i => .pin (swp a b s) i
  | .mapb m es => .mapb m es
def AS.ren (σ : AS) (a b : Nat) : AS := ⟨fun t => (σ.tm t).ren a b, fun s => (σ.mem (swp a b s)).map (Blk.ren a b)⟩
def Ctx.ren (c : Ctx) (a b : Nat) : Ctx := ⟨fun s => c.at_ (swp a b s), c.I⟩

section
variable {w0 w : World} {L : Nat → Prop} {n : Nat} {σ : AS} {a : Act} {c : Ctx} {F : Nat → Nat → Prop} {p q : Nat}

theorem R.ren {x : AV} {v : Value} (h : R c w x v) : R (c.ren p q) w (x.ren p q) v := by
  have hat : ∀ {s : Nat} {i : SI}, c.at_ s = some i → (c.ren p q).at_ (swp p q s) = some i := fun {s i} h => by
    show c.at_ (swp p q (swp p q s)) = some i; rw [swp_swp]; exact h
  cases x with
  | dead => exact .dead v
  | lit => cases h; exact .lit _
  | ptr s j => cases h with | ptr h => exact .ptr (hat h)
  | eptr s i j => cases h with | @eptr _ _ _ b cap sz h => exact .eptr (b := b) (cap := cap) (sz := sz) (hat h)
  | loc s o len => cases h with
    | loc h a b => exact .loc (hat h) a b
    | locnil h => exact .locnil (hat h)
  | row => exact R.free (c := c) (c' := c.ren p q) (fun _ h => h) (fun _ _ => rfl) h rfl
  | bptr => exact R.free (c := c) (c' := c.ren p q) (fun _ h => h) (fun _ _ => rfl) h rfl
  | nn => exact R.free (c := c) (c' := c.ren p q) (fun _ h => h) (fun _ _ => rfl) h rfl
  | fn f caps =>
    cases caps with
    | nil => cases h with | fn a1 a0 a2 => exact .fn a1 a0 (fun k x v hx => by simp at hx)
    | cons x l => exact .dead v
theorem RL.ren : ∀ {xs : List AV} {vs : List Value}, RL c w xs vs → RL (c.ren p q) w (xs.map (AV.ren p q)) vs
  | [], [], _ => trivial
  | _ :: _, _ :: _, h => ⟨⟨h.1.1.ren, h.1.2⟩, RL.ren h.2⟩
theorem RTs.ren : ∀ {ts : List (Bool × List AV)} {vs : List Value}, RTs c w ts vs → RTs (c.ren p q) w (ts.map fun t => (t.1, t.2.map (AV.ren p q))) vs
  | [], [], _ => trivial
  | (false, [x]) :: _, _ :: _, h => ⟨⟨h.1.1.ren, h.1.2⟩, RTs.ren h.2⟩
  | (true, _) :: _, .agg _ :: _, h => ⟨RL.ren h.1, RTs.ren h.2⟩
theorem RT.ren {t : T} {v : Value} (h : RT c w t v) : RT (c.ren p q) w (t.ren p q) v := by
  cases t with
  | dead => trivial
  | one x => exact ⟨h.1.ren, h.2⟩
  | agg xs => cases v <;> first | exact h.elim | exact RL.ren h
  | tup ts => cases v <;> first | exact h.elim | exact RTs.ren h
theorem ren_cell {x : AV} (h : x.isCell = true) : x.ren p q = x := by cases x <;> first | rfl | simp [AV.isCell] at h
theorem ren_notcell {x : AV} (h : x.isCell = false) : (x.ren p q).isCell = false := by
  cases x <;> first | rfl | (simp [AV.isCell] at h; done) | skip
  rename_i f caps
  cases caps <;> rfl
theorem RO.cell {x : AV} {v : Value} {G : Nat → Prop} (h : RO c w G x v) : x.isCell = true := by
  cases h with
  | plain h1 _ _ => cases x <;> first | rfl | simp [AV.isData] at h1
  | nil => rfl
  | own => rfl
theorem BlkOk.ren {F : Nat → Prop} {s : Nat} {k : Blk} (h : BlkOk c w F s k) : BlkOk (c.ren p q) w F (swp p q s) (k.ren p q) := by
  have hat : ∀ {s : Nat} {i : SI}, c.at_ s = some i → (c.ren p q).at_ (swp p q s) = some i := fun {s i} h => by
    show c.at_ (swp p q (swp p q s)) = some i; rw [swp_swp]; exact h
  cases k with
  | var xs =>
    obtain ⟨b, C, e, fz, a1, a2, a3, a4, a5⟩ := h
    exact ⟨b, C, e, fz, hat a1, a2, a3, a4.ren, a5⟩
  | row o sz es =>
    cases o with
    | true =>
      rcases h with ⟨a1, a2, a3⟩ | ⟨b, cap, a1, C, e, fz, G, b1, b2, b3, b4, b5, b6, b7, b8, b9, b10, b11, b12⟩
      · exact .inl ⟨hat a1, a2, a3⟩
      · exact .inr ⟨b, cap, hat a1, C, e, fz, G, b1, b2, b3, b4, b5, b6, b7, fun i j x v hx hv => .inl (RO.ctx (c := c) (c' := c.ren p q) (fun _ h => h) ((b8 i j x v hx hv).resolve_right (by simp))), b9, b10, b11, b12⟩
    | false =>
      rcases h with ⟨a1, rfl, a3⟩ | ⟨b, cap, a1, C, e, fz, G, b1, b2, b3, b4, b5, b6, b7, b8, b9, b10, b11, b12⟩
      · exact .inl ⟨hat a1, rfl, a3⟩
      · refine .inr ⟨b, cap, hat a1, C, e, fz, G, b1, b2, by simpa using b3, b4, b5, fun e he => ?_, fun i j x v hx hv => ?_, fun i j x v hx hv => ?_, b9, b10, fun i j k hg => ?_, b12⟩
        · obtain ⟨e', he', rfl⟩ := List.mem_map.1 he
          rw [List.length_map]; exact b6 e' he'
        · obtain ⟨y, hy, _⟩ := elt_map hx
          exact b7 i j y v hy hv
        · obtain ⟨y, hy, rfl⟩ := elt_map hx
          rcases b8 i j y v hy hv with h1 | ⟨h1, h2, h3, h4⟩
          · left
            rw [ren_cell h1.cell]
            exact RO.ctx (c := c) (c' := c.ren p q) (fun _ h => h) h1
          · exact .inr ⟨h1, h2, h3.ren, ren_notcell h4⟩
        · have := b11 i j k hg
          unfold elt at this ⊢
          cases he : es[i]? with
          | none => simp [he] at this
          | some e => simp [he] at this; simp [he, this]
  | par v x => exact ⟨hat h.1, h.2⟩
  | pin s2 i => exact ⟨hat h.1, h.2.1, hat h.2.2⟩
  | mapb b es => exact ⟨hat h.1, h.2⟩
theorem ren_par {k : Blk} {v : Value} {x : AV} (h : k.ren p q = .par v x) : k = .par v x := by
  cases k with
  | par => exact h
  | row o => cases o <;> cases h
  | _ => cases h

/-- Two places change their numbers. -/
theorem weak_swap (p q : Nat) {τ : AS} (hw : Weak (σ.ren p q) τ) : Weak σ τ := by
  rintro w0 L n a w ⟨c, F, h⟩
  refine hw _ _ _ _ _ ⟨c.ren p q, fun s b => F (swp p q s) b, ?_⟩
  refine ⟨h.keeps, h.size, h.defers, fun t => (h.tm t).ren, fun s k hk => ?_, fun s hs => ?_, fun s s' b h1 h2 => swp_inj (h.disj _ _ _ h1 h2), fun s b hb => h.new _ b hb, h.imm, fun s b hb => ?_, fun s v x hk => ?_, h.gl⟩
  · simp only [AS.ren] at hk
    cases hm : σ.mem (swp p q s) with
    | none => rw [hm] at hk; cases hk
    | some k' =>
      rw [hm] at hk
      simp only [Option.map_some, Option.some.injEq] at hk
      subst hk
      have := (h.mem _ k' hm).ren (p := p) (q := q)
      rw [swp_swp] at this
      exact this
  · simp only [AS.ren] at hs
    cases hm : σ.mem (swp p q s) with
    | none => exact h.dom _ hm
    | some k' => rw [hm] at hs; cases hs
  · exact h.inn (swp p q s) b hb
  · simp only [AS.ren] at hk
    cases hm : σ.mem (swp p q s) with
    | none => rw [hm] at hk; cases hk
    | some k' =>
      rw [hm] at hk
      simp only [Option.map_some, Option.some.injEq] at hk
      have := ren_par hk
      subst this
      exact h.par _ v x hm
end
end Go.Proofs.YtdbnppipgblajaaGreatDoor
namespace Go.Proofs.YtdbnppipgblajaaGreatDoor
open Go.RowKit
set_option linter.unusedSimpArgs false
set_option linter.unusedVariables false
set_option maxRecDepth 100000
set_option maxHeartbeats 8000000
theorem eN_nb (l : List UInt32) : (AV.row true 1 (l.map eN)).nb 5 = true := by show AV.nb (4 + 1) _ = true; exact nb_map (n := 4) (fun y => rfl) _
theorem DHash.enc_nb (h : DHash) : h.enc.all (AV.nb 5) = true := by
  simp only [DHash.enc, List.all_cons, List.all_nil, Bool.and_true, Bool.and_eq_true]
  exact ⟨eN_nb _, rfl, rfl⟩
theorem l05More_c (h : DHash) (hs : h.state.length = 8) (hsz : 0 ≤ h.size ∧ h.size ≤ 4611686018427387904) (hr : h.rest.size ≤ 4611686018427387904) (t : ByteArray) (ht : t.size ≤ 2305843009213693952) :
    Fun1 Tryz.prog 82 [.agg h.enc, .one (.lit (.string t))] (.agg (moreF h t).enc) := by
  refine fun1_of_vc (E := tbO82) (tbF_ok _) mix (fn := Tryz.f82) Tryz.func82 rfl (by kernel_rfl) (by kernel_rfl) (by simp [Tryz.f82]) (by exact DHash.enc_nb _) ?_
  (conv => whnf)
  refine ⟨true, _, ⟨rfl, rfl, rfl⟩, ?_⟩; (conv => whnf)
  refine ⟨_, laid_map (f := eN) (fun _ => rfl) h.state, rfl, rfl, rfl, by simp [maxLen, chunk]; omega, by simp [chunk]; omega, ?_⟩; (conv => whnf)
  refine ⟨by omega, ?_⟩; (conv => whnf)
  refine ⟨h.size + (t.size : Int), by rw [← wrap64_id] <;> omega, ?_⟩; (conv => whnf)
  obtain ⟨X, hX⟩ : ∃ X, h.rest ++ t = X := ⟨_, rfl⟩
  have hXs : X.size = h.rest.size + t.size := by rw [← hX]; simp
  have hmore : moreF h t = ⟨blocksN h.state X (X.size / 64), X.extract (64 * (X.size / 64)) X.size, h.size + (t.size : Int)⟩ := by unfold moreF; rw [hX]
  rw [hmore]
  simp only [hX]
  refine ⟨LG (fun n : Nat => n ≤ X.size / 64) (fun n => X.size / 64 - n) (fun n => AS.of [(4, .one (.ptr 64 0)), (5, .one (.ptr 80 0)), (6, .one (.lit (.int .i64 ((64 * n : Nat) : Int))))]
    [(64, .var [.lit (.slice none 0 0), .lit (.string .empty), .lit (.int .i64 0)]), (80, .var [.loc 112 0 8, .lit (.string X), .lit (.int .i64 (h.size + (t.size : Int)))]), (112, .row true 1 ((blocksN h.state X n).map eN))]), lg_init 0 (by omega) (weak_of (by repeat (first | refine all_cons (by first | rfl | exact eq_int rfl (by first | rfl | omega | (simp; done) | (simp; omega)) | exact eq_loc rfl (by first | rfl | omega | (simp; done) | (simp; omega)) | exact eq_bool rfl (by simp_all)) ?_ | exact all_nil)) (all_cons rfl (all_cons (eq_var rfl (by simp [chunk, hs, AV.bor, siteOf])) (all_cons rfl all_nil))) rfl rfl), ?_⟩
  rintro σ k ⟨n, hn, rfl, rfl⟩
  have hbl := blocksN_len hs X n
  refine ⟨_, Weak.refl _, ?_⟩
  (conv => whnf)
  refine ⟨(X.size : Int) - ((64 * n : Nat) : Int), by rw [← wrap64_id] <;> omega, ?_⟩; (conv => whnf)
  (split <;> rename_i h1 <;> (try simp only [decide_eq_true_eq, decide_eq_false_iff_not, Bool.not_eq_true', Bool.not_eq_false', Bool.not_eq_true, Bool.not_eq_false, List.length_map] at h1) <;> conv => whnf)
  · have hlt : n < X.size / 64 := by omega
    refine ⟨((64 * n + 64 : Nat) : Int), by rw [← wrap64_id] <;> omega, ?_⟩; (conv => whnf)
    refine ⟨by show (0 : Int) ≤ ((64 * n : Nat) : Int); omega, by show ((64 * n : Nat) : Int) ≤ ((64 * n + 64 : Nat) : Int); omega, by show ((64 * n + 64 : Nat) : Int) ≤ (X.size : Int); omega, X.extract (64 * n) (64 * n + 64), rfl, ?_⟩; (conv => whnf)
    refine ⟨_, _, l05Block_c (blocksN h.state X n) hbl (X.extract (64 * n) (64 * n + 64)) (by rw [ByteArray.size_extract]; omega), lends_cons (lend_one (la_loc rfl rfl rfl (by simp [hbl]) (by simp [hbl]))) (lends_cons (lend_one (la_lit rfl)) lends_nil), ?_⟩; (conv => whnf)
    refine ⟨((64 * (n + 1) : Nat) : Int), by rw [← wrap64_id] <;> omega, ?_⟩; (conv => whnf)
    exact lg_back (n + 1) (by omega) (by (try dsimp only); omega) (weak_swap 112 592 (weak_of (by repeat (first | refine all_cons (by first | rfl | exact eq_int rfl (by first | rfl | omega | (simp; done) | (simp; omega)) | exact eq_loc rfl (by first | rfl | omega | (simp; done) | (simp; omega)) | exact eq_bool rfl (by simp_all)) ?_ | exact all_nil)) (all_cons rfl (all_cons (eq_var rfl (by simp [openAV, block_len hbl, AV.ren, swp, siteOf])) (all_cons rfl all_nil))) rfl rfl))
  · have : n = X.size / 64 := by omega
    subst this
    refine ⟨by show (0 : Int) ≤ ((64 * (X.size / 64) : Nat) : Int); omega, by show ((64 * (X.size / 64) : Nat) : Int) ≤ (X.size : Int); omega, by show (X.size : Int) ≤ (X.size : Int); omega, X.extract (64 * (X.size / 64)) X.size, by congr 1, ?_⟩; (conv => whnf)
    exact ⟨close_row rfl rfl (by simp [hbl]) rfl, close_str rfl, close_int rfl, trivial⟩
end Go.Proofs.YtdbnppipgblajaaGreatDoor
namespace Go.Proofs.YtdbnppipgblajaaGreatDoor
open Go.RowKit
set_option linter.unusedSimpArgs false
set_option linter.unusedVariables false
set_option maxRecDepth 100000
set_option maxHeartbeats 8000000
theorem u8_nat (n : Nat) : IntKind.u8.wrap (n : Int) = ((UInt8.ofNat n).toNat : Int) := by
  rw [IntKind.wrap_u8, UInt8.toNat_ofNat']; omega
theorem shr_nat (n k : Nat) : (n : Int).fdiv (2 ^ k) = ((n >>> k : Nat) : Int) := by
  rw [Nat.shiftRight_eq_div_pow, pow2_cast, Int.fdiv_eq_ediv_of_nonneg _ (Int.natCast_nonneg _)]
  exact (Int.natCast_ediv _ _).symm
theorem zerosL_len (n : Nat) : (zerosL n).length = n := by simp [zerosL]
theorem zerosL_succ (n : Nat) : zerosL (n + 1) = zerosL n ++ [0] := by simp [zerosL, List.replicate_succ']
theorem be64_take {n i : Nat} (h : i < 8) : (be64 n).take (i + 1) = (be64 n).take i ++ [UInt8.ofNat (n >>> (56 - 8 * i))] := by
  match i, h with
  | 0, _ => rfl
  | 1, _ => rfl
  | 2, _ => rfl
  | 3, _ => rfl
  | 4, _ => rfl
  | 5, _ => rfl
  | 6, _ => rfl
  | 7, _ => rfl
  | i + 8, h => omega
theorem be64_len (n : Nat) : (be64 n).length = 8 := rfl
/-- A hash that is right. -/
structure DHash.good (h : DHash) : Prop where
  st : h.state.length = 8
  s0 : 0 ≤ h.size
  s1 : h.size ≤ 1099511627776
  r : (h.rest.size : Int) = h.size % 64
theorem padL_len (r n : Nat) : (padL r n).length = 9 + (119 - r) % 64 := by simp [padL, zerosL_len, be64_len]; omega
theorem outL_len (l : List UInt32) : (outL l).length = 4 * l.length := by
  unfold outL
  rw [flat_len _ 4 (fun x hx => by obtain ⟨w, _, rfl⟩ := List.mem_map.1 hx; rfl), List.length_map]
theorem outL_succ {l : List UInt32} {i : Nat} (h : i < l.length) : outL (l.take (i + 1)) = outL (l.take i) ++ wordB l[i] := by
  unfold outL
  rw [List.take_succ_eq_append_getElem h, List.map_append, List.flatten_append]; simp
theorem l05End_c (h : DHash) (hg : h.good) : Fun1 Tryz.prog 81 [.agg h.enc] (.one (.lit (.string (endF h)))) := by
  obtain ⟨hs, h0, h1, hr⟩ := hg
  refine fun1_of_vc tb_ok mix (fn := Tryz.f81) Tryz.func81 rfl (by kernel_rfl) (by kernel_rfl) (by simp [Tryz.f81]) (by rfl) ?_
  (conv => whnf)
  obtain ⟨S, hS⟩ : ∃ S : Nat, h.size = S := ⟨h.size.toNat, by omega⟩
  have hr' : h.rest.size = S % 64 := by omega
  obtain ⟨Z, hZ⟩ : ∃ Z, (119 - h.rest.size) % 64 = Z := ⟨_, rfl⟩
  refine ⟨LG (fun j : Nat => j ≤ Z) (fun j => Z - j) (fun j => AS.of [(1, .one (.ptr 16 0)), (2, .one (.lit (.string .empty))), (3, .one (.loc 160 0 (j + 1)))] [(16, .var h.enc), (160, .row true 1 ((128 :: zerosL j).map byteE))]), lg_init 0 (by omega) (weak_of (by repeat (first | refine all_cons (by first | rfl | exact eq_int rfl (by first | rfl | omega | (simp; done) | (simp; omega)) | exact eq_loc rfl (by first | rfl | omega | (simp; done) | (simp; omega)) | exact eq_bool rfl (by simp_all)) ?_ | exact all_nil)) (by repeat (first | refine all_cons (by first | rfl | exact eq_int rfl (by first | rfl | omega | (simp; done) | (simp; omega)) | exact eq_loc rfl (by first | rfl | omega | (simp; done) | (simp; omega)) | exact eq_bool rfl (by simp_all)) ?_ | exact all_nil)) rfl rfl), ?_⟩
  rintro σ k ⟨j, hj, rfl, rfl⟩
  refine ⟨_, Weak.refl _, ?_⟩
  (conv => whnf)
  refine ⟨((S + (j + 1) : Nat) : Int), by rw [← wrap64_id] <;> omega, ?_⟩; (conv => whnf)
  refine ⟨by decide, (((S + (j + 1)) % 64 : Nat) : Int), by rw [Int.ofNat_tmod]; rfl, ?_⟩; (conv => whnf)
  (split <;> rename_i h2 <;> (try simp only [decide_eq_true_eq, decide_eq_false_iff_not, Bool.not_eq_true', Bool.not_eq_false', Bool.not_eq_true, Bool.not_eq_false, List.length_map] at h2) <;> conv => whnf)
  · have hlt : j < Z := by omega
    refine ⟨true, [byteE 0], ⟨rfl, by simp [chunk], rfl, by simp [chunk]; rfl⟩, ?_⟩; (conv => whnf)
    refine ⟨[byteE 0], laid_map (f := byteE) (fun _ => rfl) [0], rfl, by simp [chunk, zerosL_len], rfl, by simp [maxLen, chunk, zerosL_len]; omega, by simp [chunk, zerosL_len]; omega, ?_⟩; (conv => whnf)
    exact lg_back (j + 1) (by omega) (by (try dsimp only); omega) (weak_of (all_cons rfl (all_cons rfl (all_cons (eq_loc rfl (by simp [chunk, zerosL_len])) all_nil))) (all_cons rfl (all_cons (eq_row rfl (by rw [zerosL_succ]; simp [chunk])) all_nil)) rfl rfl)
  · have : j = Z := by omega
    subst this
    refine ⟨((8 * S : Nat) : Int), by rw [← wrap64_id] <;> omega, ?_⟩; (conv => whnf)
    refine ⟨((8 * S : Nat) : Int), by rw [IntKind.wrap_u64]; omega, ?_⟩; (conv => whnf)
    have hpl : ∀ i, i ≤ 8 → (128 :: zerosL j ++ (be64 (8 * S)).take i).length = 1 + j + i := fun i hi => by simp [zerosL_len, be64_len]; omega
    refine ⟨LG (fun i : Nat => i ≤ 8) (fun i => 8 - i) (fun i => AS.of [(1, .one (.ptr 16 0)), (2, .one (.lit (.string .empty))), (3, .one (.loc 160 0 (1 + j + i))), (4, .one (.lit (.int .u64 ((8 * S : Nat) : Int)))), (5, .one (.lit (.int .i64 (56 - 8 * (i : Int)))))]
      [(16, .var h.enc), (160, .row true 1 ((128 :: zerosL j ++ (be64 (8 * S)).take i).map byteE))]), lg_init 0 (by omega) (weak_of (all_cons rfl (all_cons rfl (all_cons (eq_loc rfl (by omega)) (all_cons rfl (all_cons rfl all_nil))))) (all_cons rfl (all_cons (eq_row rfl (by simp)) all_nil)) rfl rfl), ?_⟩
    rintro σ k ⟨i, hi, rfl, rfl⟩
    have hp := hpl i hi
    refine ⟨_, Weak.refl _, ?_⟩
    (conv => whnf)
    (split <;> rename_i h3 <;> (try simp only [decide_eq_true_eq, decide_eq_false_iff_not, Bool.not_eq_true', Bool.not_eq_false', Bool.not_eq_true, Bool.not_eq_false, List.length_map] at h3) <;> conv => whnf)
    · have hlt : i < 8 := by omega
      refine ⟨((56 - 8 * i : Nat) : Int), by rw [IntKind.wrap_u64]; omega, ?_⟩; (conv => whnf)
      refine ⟨by omega, (((8 * S) >>> (56 - 8 * i) : Nat) : Int), by rw [← shr_nat]; congr 2; show 56 - 8 * i = min (((56 - 8 * i : Nat) : Int).toNat) 64; omega, ?_⟩; (conv => whnf)
      refine ⟨_, (u8_nat _).symm, ?_⟩; (conv => whnf)
      refine ⟨true, [byteE (UInt8.ofNat ((8 * S) >>> (56 - 8 * i)))], ⟨rfl, by simp [chunk], rfl, by simp [chunk]; rfl⟩, ?_⟩; (conv => whnf)
      refine ⟨[byteE (UInt8.ofNat ((8 * S) >>> (56 - 8 * i)))], laid_map (f := byteE) (fun _ => rfl) [UInt8.ofNat ((8 * S) >>> (56 - 8 * i))], rfl, by rw [List.length_map, hp], rfl, by rw [List.length_map, hp]; simp [maxLen, chunk]; omega, by rw [List.length_map, hp]; simp [chunk]; omega, ?_⟩; (conv => whnf)
      refine ⟨56 - 8 * ((i + 1 : Nat) : Int), by rw [← wrap64_id] <;> omega, ?_⟩; (conv => whnf)
      exact lg_back (i + 1) (by omega) (by (try dsimp only); omega) (weak_of (all_cons rfl (all_cons rfl (all_cons (eq_loc rfl (by rw [List.length_map, hp]; simp [chunk]; omega)) (all_cons rfl (all_cons rfl all_nil))))) (all_cons rfl (all_cons (eq_row rfl (by rw [be64_take hlt, ← List.append_assoc, List.map_append]; simp [chunk])) all_nil)) rfl rfl)
    · have : i = 8 := by omega
      subst this
      have hpad : (128 :: zerosL j ++ (be64 (8 * S)).take 8) = padL h.rest.size h.size.toNat := by
        rw [List.take_of_length_le (by rw [be64_len]; omega), padL, hZ, hS]; rfl
      have hN : h.size.toNat = S := by omega
      refine ⟨true, _, padL h.rest.size h.size.toNat, ⟨rfl, by rw [List.length_map, hp]; omega, rfl, rfl⟩, by rw [hpad]; exact List.take_of_length_le (by rw [← hpad, List.length_drop, List.length_map, hp]; omega), ?_⟩; (conv => whnf)
      obtain ⟨x, hx⟩ : ∃ x, moreF h (bytesOf (padL h.rest.size h.size.toNat)) = x := ⟨_, rfl⟩
      have hxs : x.state.length = 8 := by rw [← hx]; exact blocksN_len hs _ _
      have cM := l05More_c h hs (by omega) (by omega) (bytesOf (padL h.rest.size h.size.toNat)) (by show (padL h.rest.size h.size.toNat).length ≤ _; rw [padL_len]; omega)
      rw [hx] at cM
      have hend : endF h = bytesOf (outL x.state) := by unfold endF; rw [hx]
      rw [hend]
      refine ⟨_, _, cM, (by repeat' (first | exact lends_nil | exact lend_dead | apply lends_cons | apply lend_agg | apply lend_one | exact all2_nil | apply all2_cons | exact la_lit rfl | exact la_int (by first | rfl | omega) | exact la_row rfl rfl | exact la_loc rfl rfl rfl (by first | rfl | simp [mkL_length]) (by first | rfl | simp) | exact la_nil rfl | apply la_fn rfl | exact lend_same rfl rfl | exact lend_bor rfl rfl)), ?_⟩; (conv => whnf)
      refine ⟨LG (fun i : Nat => i ≤ 8) (fun i => 8 - i) (fun i => AS.of [(2, .one (.lit (.string .empty))), (6, .one (.ptr 96 0)), (7, .one (.loc 656 0 (4 * i))), (8, .one (.lit (.int .i64 (i : Nat))))]
        [(96, .var [.loc 640 0 8, .lit (.string x.rest), .lit (.int .i64 x.size)]), (640, .row true 1 (x.state.map eN)), (656, .row true 1 ((outL (x.state.take i)).map byteE))]), lg_init 0 (by omega) (weak_of (by repeat (first | refine all_cons (by first | rfl | exact eq_int rfl (by first | rfl | omega | (simp; done) | (simp; omega)) | exact eq_loc rfl (by first | rfl | omega | (simp; done) | (simp; omega)) | exact eq_bool rfl (by simp_all)) ?_ | exact all_nil)) (all_cons (eq_var rfl (by simp [openL, openAV, hxs, siteOf, DHash.enc])) (all_cons rfl (all_cons rfl all_nil))) rfl rfl), ?_⟩
      rintro σ k ⟨i, hi, rfl, rfl⟩
      have hol : (outL (x.state.take i)).length = 4 * i := by rw [outL_len, List.length_take]; omega
      refine ⟨_, Weak.refl _, ?_⟩
      (conv => whnf)
      (split <;> rename_i h4 <;> (try simp only [decide_eq_true_eq, decide_eq_false_iff_not, Bool.not_eq_true', Bool.not_eq_false', Bool.not_eq_true, Bool.not_eq_false, List.length_map] at h4) <;> conv => whnf)
      · have hlt : i < x.state.length := by omega
        have hsx := outL_succ hlt
        refine ⟨i, rfl, by omega, ?_⟩; (conv => whnf)
        refine ⟨_, at_map0 hlt, ?_⟩; (conv => whnf)
        refine ⟨by decide, _, (shr_nat _ 24).symm, ?_⟩; (conv => whnf)
        refine ⟨_, (u8_nat _).symm, ?_⟩; (conv => whnf)
        refine ⟨by decide, _, (shr_nat _ 16).symm, ?_⟩; (conv => whnf)
        refine ⟨_, (u8_nat _).symm, ?_⟩; (conv => whnf)
        refine ⟨by decide, _, (shr_nat _ 8).symm, ?_⟩; (conv => whnf)
        refine ⟨_, (u8_nat _).symm, ?_⟩; (conv => whnf)
        refine ⟨_, (u8_nat _).symm, ?_⟩; (conv => whnf)
        refine ⟨true, (wordB x.state[i]).map byteE, ⟨rfl, by simp [chunk], rfl, rfl⟩, ?_⟩; (conv => whnf)
        refine ⟨(wordB x.state[i]).map byteE, laid_map (f := byteE) (fun _ => rfl) _, rfl, by rw [List.length_map, hol], rfl, by rw [List.length_map, hol]; simp [maxLen, wordB]; omega, by rw [List.length_map, hol]; simp [wordB]; omega, ?_⟩; (conv => whnf)
        (refine ⟨((i + 1 : Nat) : Int), by rw [← wrap64_id] <;> omega, ?_⟩; conv => whnf)
        exact lg_back (i + 1) (by omega) (by (try dsimp only); omega) (weak_of (all_cons rfl (all_cons rfl (all_cons (eq_loc rfl (by rw [List.length_map, hol]; simp [wordB]; omega)) (all_cons rfl all_nil)))) (all_cons rfl (all_cons rfl (all_cons (eq_row rfl (by rw [hsx, List.map_append])) all_nil))) rfl rfl)
      · have : i = 8 := by omega
        subst this
        refine ⟨true, _, outL x.state, ⟨rfl, by rw [List.length_map, hol]; omega, rfl, rfl⟩, by rw [List.take_of_length_le (show x.state.length ≤ 8 by omega)]; exact List.take_of_length_le (by rw [List.drop_zero, List.length_map, outL_len]; omega), ?_⟩; (conv => whnf)
        exact ⟨close_str rfl, trivial⟩
theorem good0 : (⟨startL, .empty, 0⟩ : DHash).good := ⟨rfl, by decide, by decide, by decide⟩
theorem more_good {h : DHash} (hg : h.good) {t : ByteArray} (ht : h.size + t.size ≤ 1099511627776) : (moreF h t).good := by
  obtain ⟨hs, h0, h1, hr⟩ := hg
  refine ⟨blocksN_len hs _ _, by show 0 ≤ h.size + (t.size : Int); omega, ht, ?_⟩
  show (((h.rest ++ t).extract _ _).size : Int) = (h.size + (t.size : Int)) % 64
  rw [ByteArray.size_extract, ByteArray.size_append]
  omega
theorem digestSpec_c (t : ByteArray) (ht : t.size ≤ 4294967296) : Fun1 Tryz.prog 58 [.one (.lit (.string t))] (.one (.lit (.string (if t.size ≤ 20000 then digF t else .empty)))) := by
  refine fun1_of_vc tb_ok mix (fn := Tryz.f58) Tryz.func58 rfl (by kernel_rfl) (by kernel_rfl) (by simp [Tryz.f58]) (by rfl) ?_
  (conv => whnf)
  (split <;> rename_i h <;> (try simp only [decide_eq_true_eq, decide_eq_false_iff_not, Bool.not_eq_true', Bool.not_eq_false', Bool.not_eq_true, Bool.not_eq_false, List.length_map] at h) <;> conv => whnf)
  · exact ⟨close_str (by rw [if_neg (by omega)]; rfl), trivial⟩
  · refine ⟨_, _, hashBegin_c, (by repeat' (first | exact lends_nil | exact lend_dead | apply lends_cons | apply lend_agg | apply lend_one | exact all2_nil | apply all2_cons | exact la_lit rfl | exact la_int (by first | rfl | omega) | exact la_row rfl rfl | exact la_loc rfl rfl rfl (by first | rfl | simp [mkL_length]) (by first | rfl | simp) | exact la_nil rfl | apply la_fn rfl | exact lend_same rfl rfl | exact lend_bor rfl rfl)), ?_⟩; (conv => whnf)
    refine ⟨_, _, l05More_c ⟨startL, .empty, 0⟩ rfl (by decide) (by decide) t (by omega), (by repeat' (first | exact lends_nil | exact lend_dead | apply lends_cons | apply lend_agg | apply lend_one | exact all2_nil | apply all2_cons | exact la_lit rfl | exact la_int (by first | rfl | omega) | exact la_row rfl rfl | exact la_loc rfl rfl rfl (by first | rfl | simp [mkL_length]) (by first | rfl | simp) | exact la_nil rfl | apply la_fn rfl | exact lend_same rfl rfl | exact lend_bor rfl rfl)), ?_⟩; (conv => whnf)
    refine ⟨_, _, l05End_c (moreF ⟨startL, .empty, 0⟩ t) (more_good good0 (by show (0 : Int) + (t.size : Int) ≤ 1099511627776; omega)), (by repeat' (first | exact lends_nil | exact lend_dead | apply lends_cons | apply lend_agg | apply lend_one | exact all2_nil | apply all2_cons | exact la_lit rfl | exact la_int (by first | rfl | omega) | exact la_row rfl rfl | exact la_loc rfl rfl rfl (by first | rfl | simp [mkL_length]) (by first | rfl | simp) | exact la_nil rfl | apply la_fn rfl | exact lend_same rfl rfl | exact lend_bor rfl rfl)), ?_⟩; (conv => whnf)
    exact ⟨close_str (by rw [if_pos (by omega)]; rfl), trivial⟩
end Go.Proofs.YtdbnppipgblajaaGreatDoor
namespace Go.Proofs.YtdbnppipgblajaaGreatDoor
open Go.RowKit
set_option linter.unusedSimpArgs false
set_option linter.unusedVariables false
set_option maxRecDepth 100000
set_option maxHeartbeats 8000000
def S8.cells (s : S8) : List AV := [eV s.a, eV s.b, eV s.c, eV s.d, eV s.e, eV s.f, eV s.g, eV s.h]
def blkS (s : S8) (t : ByteArray) : S8 := S8.of (block s.list t)
theorem of_list {l : List UInt32} (h : l.length = 8) : (S8.of l).list = l := by
  match l, h with
  | [a, b, c, d, e, f, g, h], _ => rfl
theorem blkS_list (s : S8) (t : ByteArray) : (blkS s t).list = block s.list t := of_list (block_len rfl t)
theorem list_cells (s : S8) : s.list.map eV = s.cells := rfl
def blkN (s : S8) (t : ByteArray) : Nat → S8
  | 0 => s
  | n + 1 => blkS (blkN s t n) (t.extract (64 * n) (64 * n + 64))
theorem blkN_list (s : S8) (t : ByteArray) : ∀ n, (blkN s t n).list = blocksN s.list t n
  | 0 => rfl
  | n + 1 => by rw [blkN, blkS_list, blkN_list s t n]; rfl
theorem taken8_c (s : S8) (b : ByteArray) (hb : b.size = 64) : Fun1 Tryz.prog 66 [.agg s.cells, .one (.lit (.string b))] (.agg (blkS s b).cells) := by
  have := taken_c s.a s.b s.c s.d s.e s.f s.g s.h b hb
  rw [show [s.a, s.b, s.c, s.d, s.e, s.f, s.g, s.h] = s.list from rfl, ← blkS_list] at this
  exact this
theorem oneByte_c (x : UInt8) : Fun1 Tryz.prog 90 [.one (.lit (.int .u8 (x.toNat : Int)))] (.one (.lit (.string (bytesOf [x])))) := by
  refine fun1_of_vc tb_ok mix (fn := Tryz.f90) Tryz.func90 rfl (by kernel_rfl) (by kernel_rfl) (by simp [Tryz.f90]) (by rfl) ?_
  (conv => whnf)
  refine ⟨true, _, [x], ⟨rfl, by simp [chunk], rfl, rfl⟩, rfl, ?_⟩; (conv => whnf)
  exact ⟨close_str rfl, trivial⟩
theorem ext_ext (t : ByteArray) {a b c : Nat} (h : a + c ≤ b) : (t.extract a b).extract 0 c = t.extract a (a + c) := by
  apply ByteArray.ext; apply Array.ext'
  rw [Lib.extract_data, Lib.extract_data, Lib.extract_data]
  simp only [List.drop_zero, Nat.sub_zero, List.take_take]
  congr 1; omega
theorem ext_drop (t : ByteArray) {a b c : Nat} : (t.extract a b).extract c (t.extract a b).size = t.extract (a + c) b := by
  apply ByteArray.ext; apply Array.ext'
  have hs : (t.extract a b).size = ((t.data.toList.drop a).take (b - a)).length := by rw [Lib.size_eq, Lib.extract_data]
  rw [Lib.extract_data, hs, Lib.extract_data, Lib.extract_data, List.take_of_length_le (by rw [List.length_drop]; exact Nat.le_refl _), List.drop_take, List.drop_drop]
  congr 1; omega
theorem ext_size (t : ByteArray) {a b : Nat} (h : b ≤ t.size) : (t.extract a b).size = b - a := by rw [ByteArray.size_extract]; omega
theorem bytes_app (l m : List UInt8) : bytesOf l ++ bytesOf m = bytesOf (l ++ m) := by apply ByteArray.ext; apply Array.ext'; simp [bytesOf]
theorem bytes_of (t : ByteArray) : bytesOf t.data.toList = t := by apply ByteArray.ext; apply Array.ext'; simp [bytesOf]
theorem bytes_size (l : List UInt8) : (bytesOf l).size = l.length := rfl
/-- What is hashed at the end. -/
def endL (rest : ByteArray) (n : Nat) : List UInt8 := rest.data.toList ++ padL rest.size n
theorem endL_len (rest : ByteArray) (n : Nat) : (endL rest n).length = rest.size + (9 + (119 - rest.size) % 64) := by
  unfold endL; rw [List.length_append, padL_len]; simp
theorem summed_c (s : S8) (rest : ByteArray) (n : Nat) (hr : rest.size < 64) (hn : n ≤ 1099511627776) (K : Nat) (hK : (endL rest n).length = 64 * K) :
    Fun1 Tryz.prog 67 [.agg s.cells, .one (.lit (.string rest)), .one (vN n)] (.one (.lit (.string (bytesOf (outL (blkN s (bytesOf (endL rest n)) K).list))))) := by
  have hel := endL_len rest n
  refine fun1_of_vc tb_ok mix (fn := Tryz.f67) Tryz.func67 rfl (by kernel_rfl) (by kernel_rfl) (by simp [Tryz.f67]) (by rfl) ?_
  (conv => whnf)
  refine ⟨by rw [show (ByteArray.mk #[128]).size = 1 from rfl]; omega, ?_⟩; (conv => whnf)
  have hz1 : (rest ++ ByteArray.mk #[128]).size = rest.size + 1 := by rw [ByteArray.size_append]; rfl
  refine ⟨((119 - rest.size : Nat) : Int), by rw [hz1, ← wrap64_id] <;> omega, ?_⟩; (conv => whnf)
  refine ⟨by decide, (((119 - rest.size) % 64 : Nat) : Int), rfl, ?_⟩; (conv => whnf)
  refine ⟨_, _, repeatZ_c ((119 - rest.size) % 64) (by omega), (by repeat' (first | exact lends_nil | exact lend_dead | apply lends_cons | apply lend_agg | apply lend_one | exact all2_nil | apply all2_cons | exact la_lit rfl | exact la_int (by first | rfl | omega) | exact la_row rfl rfl | exact la_loc rfl rfl rfl (by first | rfl | simp [mkL_length]) (by first | rfl | simp) | exact la_nil rfl | apply la_fn rfl | exact lend_same rfl rfl | exact lend_bor rfl rfl)), ?_⟩; (conv => whnf)
  refine ⟨by rw [hz1]; show _ + (List.replicate _ _).length ≤ _; rw [List.length_replicate]; omega, ?_⟩
  obtain ⟨B, hB⟩ : ∃ B, rest.data.toList ++ 128 :: zerosL ((119 - rest.size) % 64) = B := ⟨_, rfl⟩
  have hBe : endL rest n = B ++ be64 (8 * n) := by rw [← hB]; simp [endL, padL]
  have hB1 : rest ++ ByteArray.mk #[128] ++ txtOf (List.replicate ((119 - rest.size) % 64) 0) = bytesOf B := by
    rw [← hB]; apply ByteArray.ext; apply Array.ext'; simp [bytesOf, txtOf, zerosL]
  have hBl : B.length = rest.size + 1 + (119 - rest.size) % 64 := by rw [← hB]; simp [zerosL_len]; omega
  rw [hB1]
  (conv => whnf)
  refine ⟨LG (fun j : Nat => j ≤ 8) (fun j => 8 - j) (fun j => AS.of [(1, .one (.lit (.string (bytesOf (B ++ (be64 (8 * n)).take j))))), (2, .one (vN n)), (3, .one (.ptr 48 0)), (7, .one (.lit (.int .i64 (7 - (j : Int)))))] [(48, .var s.cells)]),
    lg_init 0 (by omega) (weak_of (all_cons (eq_str rfl (by simp)) (all_cons rfl (all_cons rfl (all_cons rfl all_nil)))) (by repeat (first | refine all_cons (by first | rfl | exact eq_int rfl (by first | rfl | omega | (simp; done) | (simp; omega)) | exact eq_loc rfl (by first | rfl | omega | (simp; done) | (simp; omega)) | exact eq_bool rfl (by simp_all)) ?_ | exact all_nil)) rfl rfl), ?_⟩
  rintro σ k ⟨j, hj, rfl, rfl⟩
  refine ⟨_, Weak.refl _, ?_⟩
  (conv => whnf)
  (split <;> rename_i h <;> (try simp only [decide_eq_true_eq, decide_eq_false_iff_not, Bool.not_eq_true', Bool.not_eq_false', Bool.not_eq_true, Bool.not_eq_false, List.length_map] at h) <;> conv => whnf)
  · have hlt : j < 8 := by omega
    refine ⟨((8 * n : Nat) : Int), by rw [show (n : Int) * 8 = ((8 * n : Nat) : Int) by omega]; exact (wrapN (by omega)).symm, ?_⟩; (conv => whnf)
    refine ⟨((8 * (7 - j) : Nat) : Int), by rw [← wrap64_id] <;> omega, ?_⟩; (conv => whnf)
    refine ⟨by omega, (((8 * n) >>> (8 * (7 - j)) : Nat) : Int), by rw [← shr_nat]; congr 2; show 8 * (7 - j) = min (((8 * (7 - j) : Nat) : Int).toNat) 64; omega, ?_⟩; (conv => whnf)
    refine ⟨_, (u8_nat _).symm, ?_⟩; (conv => whnf)
    refine ⟨_, _, oneByte_c (UInt8.ofNat ((8 * n) >>> (8 * (7 - j)))), (by repeat' (first | exact lends_nil | exact lend_dead | apply lends_cons | apply lend_agg | apply lend_one | exact all2_nil | apply all2_cons | exact la_lit rfl | exact la_int (by first | rfl | omega) | exact la_row rfl rfl | exact la_loc rfl rfl rfl (by first | rfl | simp [mkL_length]) (by first | rfl | simp) | exact la_nil rfl | apply la_fn rfl | exact lend_same rfl rfl | exact lend_bor rfl rfl)), ?_⟩; (conv => whnf)
    refine ⟨by rw [bytes_size, bytes_size, List.length_append, List.length_take, be64_len, List.length_singleton]; omega, ?_⟩; (conv => whnf)
    refine ⟨7 - ((j + 1 : Nat) : Int), by rw [← wrap64_id] <;> omega, ?_⟩; (conv => whnf)
    exact lg_back (j + 1) (by omega) (by (try dsimp only); omega) (weak_of (all_cons (eq_str rfl (by rw [bytes_app, be64_take hlt, show 56 - 8 * j = 8 * (7 - j) by omega, List.append_assoc])) (all_cons rfl (all_cons rfl (all_cons rfl all_nil)))) (by repeat (first | refine all_cons (by first | rfl | exact eq_int rfl (by first | rfl | omega | (simp; done) | (simp; omega)) | exact eq_loc rfl (by first | rfl | omega | (simp; done) | (simp; omega)) | exact eq_bool rfl (by simp_all)) ?_ | exact all_nil)) rfl rfl)
  · have : j = 8 := by omega
    subst this
    have hX : bytesOf (B ++ (be64 (8 * n)).take 8) = bytesOf (endL rest n) := by rw [hBe, List.take_of_length_le (by rw [be64_len]; exact Nat.le_refl _)]
    obtain ⟨X, hXX⟩ : ∃ X, bytesOf (endL rest n) = X := ⟨_, rfl⟩
    have hXs : X.size = 64 * K := by rw [← hXX, bytes_size, hK]
    have hX0 : X.extract (64 * 0) X.size = X := by rw [Nat.mul_zero]; exact ByteArray.extract_zero_size
    rw [hXX]
    refine ⟨LG (fun q : Nat => q ≤ K) (fun q => K - q) (fun q => AS.of [(1, .one (.lit (.string (X.extract (64 * q) X.size)))), (3, .one (.ptr 48 0))] [(48, .var (blkN s X q).cells)]),
      lg_init 0 (by omega) (weak_of (all_cons (eq_str rfl (by rw [hX, hXX, hX0])) (all_cons rfl all_nil)) (by repeat (first | refine all_cons (by first | rfl | exact eq_int rfl (by first | rfl | omega | (simp; done) | (simp; omega)) | exact eq_loc rfl (by first | rfl | omega | (simp; done) | (simp; omega)) | exact eq_bool rfl (by simp_all)) ?_ | exact all_nil)) rfl rfl), ?_⟩
    rintro σ k ⟨q, hq, rfl, rfl⟩
    have hes : (X.extract (64 * q) X.size).size = 64 * K - 64 * q := by rw [ext_size X (Nat.le_refl _), hXs]
    refine ⟨_, Weak.refl _, ?_⟩
    (conv => whnf)
    (split <;> rename_i h2 <;> (try simp only [decide_eq_true_eq, decide_eq_false_iff_not, Bool.not_eq_true', Bool.not_eq_false', Bool.not_eq_true, Bool.not_eq_false, List.length_map] at h2) <;> conv => whnf)
    · have hlt : q < K := by
        rcases Nat.lt_or_ge q K with h3 | h3
        · exact h3
        · exfalso
          apply h2
          apply ByteArray.ext; apply Array.ext'
          have : (X.extract (64 * q) X.size).data.toList.length = 0 := by rw [← Lib.size_eq, hes]; omega
          rw [List.eq_nil_of_length_eq_zero this]
      have hblk : (X.extract (64 * q) X.size).extract 0 64 = X.extract (64 * q) (64 * q + 64) := ext_ext X (by omega)
      refine ⟨by decide, by show (0 : Int) ≤ 64; decide, by simp only [Option.getD]; omega, X.extract (64 * q) (64 * q + 64), hblk.symm, ?_⟩; (conv => whnf)
      refine ⟨_, _, taken8_c (blkN s X q) (X.extract (64 * q) (64 * q + 64)) (by rw [ext_size X (by omega)]; omega), (by repeat' (first | exact lends_nil | exact lend_dead | apply lends_cons | apply lend_agg | apply lend_one | exact all2_nil | apply all2_cons | exact la_lit rfl | exact la_int (by first | rfl | omega) | exact la_row rfl rfl | exact la_loc rfl rfl rfl (by first | rfl | simp [mkL_length]) (by first | rfl | simp) | exact la_nil rfl | apply la_fn rfl | exact lend_same rfl rfl | exact lend_bor rfl rfl)), ?_⟩; (conv => whnf)
      refine ⟨by decide, by simp only [Option.getD]; omega, by simp only [Option.getD]; omega, X.extract (64 * (q + 1)) X.size, ?_, ?_⟩
      · show _ = (X.extract (64 * q) X.size).extract 64 (X.extract (64 * q) X.size).size
        rw [ext_drop]; rfl
      (conv => whnf)
      exact lg_back (q + 1) (by omega) (by (try dsimp only); omega) (weak_of (by repeat (first | refine all_cons (by first | rfl | exact eq_int rfl (by first | rfl | omega | (simp; done) | (simp; omega)) | exact eq_loc rfl (by first | rfl | omega | (simp; done) | (simp; omega)) | exact eq_bool rfl (by simp_all)) ?_ | exact all_nil)) (by repeat (first | refine all_cons (by first | rfl | exact eq_int rfl (by first | rfl | omega | (simp; done) | (simp; omega)) | exact eq_loc rfl (by first | rfl | omega | (simp; done) | (simp; omega)) | exact eq_bool rfl (by simp_all)) ?_ | exact all_nil)) rfl rfl)
    · have : q = K := by
        rcases Nat.lt_or_ge q K with h3 | h3
        · exfalso
          have : (X.extract (64 * q) X.size).size = 0 := by rw [h2]; rfl
          omega
        · omega
      subst this
      obtain ⟨R, hR⟩ : ∃ R, blkN s X q = R := ⟨_, rfl⟩
      rw [hR]
      have hRl : R.list.length = 8 := rfl
      refine ⟨LG (fun i : Nat => i ≤ 8) (fun i => 8 - i) (fun i => AS.of [(8, .one (.loc 928 0 (4 * i))), (41, .agg R.cells), (42, .one (.lit (.int .i64 (i : Nat))))] [(928, .row true 1 ((outL (R.list.take i)).map byteE))]),
        lg_init 0 (by omega) (weak_nil 8 928 1 rfl rfl (weak_of (all_cons rfl (all_cons (by rw [← hR]; rfl) (all_cons rfl all_nil))) (by repeat (first | refine all_cons (by first | rfl | exact eq_int rfl (by first | rfl | omega | (simp; done) | (simp; omega)) | exact eq_loc rfl (by first | rfl | omega | (simp; done) | (simp; omega)) | exact eq_bool rfl (by simp_all)) ?_ | exact all_nil)) rfl rfl)), ?_⟩
      rintro σ k ⟨i, hi, rfl, rfl⟩
      have hol : (outL (R.list.take i)).length = 4 * i := by rw [outL_len, List.length_take]; omega
      refine ⟨_, Weak.refl _, ?_⟩
      (conv => whnf)
      (split <;> rename_i h4 <;> (try simp only [decide_eq_true_eq, decide_eq_false_iff_not, Bool.not_eq_true', Bool.not_eq_false', Bool.not_eq_true, Bool.not_eq_false, List.length_map] at h4) <;> conv => whnf)
      · have hlt : i < R.list.length := by omega
        have hsx := outL_succ hlt
        have hg := get_map hlt
        rw [getD_at hlt, list_cells] at hg
        refine ⟨i, rfl, by omega, _, hg, ?_⟩; (conv => whnf)
        refine ⟨by decide, _, (shr_nat _ 24).symm, ?_⟩; (conv => whnf)
        refine ⟨_, (u8_nat _).symm, ?_⟩; (conv => whnf)
        refine ⟨by decide, _, (shr_nat _ 16).symm, ?_⟩; (conv => whnf)
        refine ⟨_, (u8_nat _).symm, ?_⟩; (conv => whnf)
        refine ⟨by decide, _, (shr_nat _ 8).symm, ?_⟩; (conv => whnf)
        refine ⟨_, (u8_nat _).symm, ?_⟩; (conv => whnf)
        refine ⟨_, (u8_nat _).symm, ?_⟩; (conv => whnf)
        refine ⟨true, (wordB R.list[i]).map byteE, ⟨rfl, by simp [chunk], rfl, rfl⟩, ?_⟩; (conv => whnf)
        refine ⟨(wordB R.list[i]).map byteE, laid_map (f := byteE) (fun _ => rfl) _, rfl, by rw [List.length_map, hol], rfl, by rw [List.length_map, hol]; simp [maxLen, wordB]; omega, by rw [List.length_map, hol]; simp [wordB]; omega, ?_⟩; (conv => whnf)
        (refine ⟨((i + 1 : Nat) : Int), by rw [← wrap64_id] <;> omega, ?_⟩; conv => whnf)
        exact lg_back (i + 1) (by omega) (by (try dsimp only); omega) (weak_of (all_cons (eq_loc rfl (by rw [List.length_map, hol]; simp [wordB]; omega)) (all_cons rfl (all_cons rfl all_nil))) (all_cons (eq_row rfl (by rw [hsx, List.map_append])) all_nil) rfl rfl)
      · have : i = 8 := by omega
        subst this
        refine ⟨true, _, outL R.list, ⟨rfl, by rw [List.length_map, hol]; omega, rfl, rfl⟩, by rw [List.take_of_length_le (show R.list.length ≤ 8 by omega)]; exact List.take_of_length_le (by rw [List.drop_zero, List.length_map, outL_len]; omega), ?_⟩; (conv => whnf)
        exact ⟨close_str rfl, trivial⟩
theorem start_cells : [AV.lit (.int .u32 1779033703), .lit (.int .u32 3144134277), .lit (.int .u32 1013904242), .lit (.int .u32 2773480762), .lit (.int .u32 1359893119), .lit (.int .u32 2600822924), .lit (.int .u32 528734635), .lit (.int .u32 1541459225)] = (S8.of startL).cells := by kernel_rfl
theorem digestImpl_c (t : ByteArray) (ht : t.size ≤ 1000000000) : Fun1 Tryz.prog 45 [.one (.lit (.string t))] (.one (.lit (.string (bytesOf (outL (blkN (blkN (S8.of startL) t (t.size / 64)) (bytesOf (endL (t.extract (64 * (t.size / 64)) t.size) t.size)) ((endL (t.extract (64 * (t.size / 64)) t.size) t.size).length / 64)).list))))) := by
  obtain ⟨K, hK⟩ : ∃ K, t.size / 64 = K := ⟨_, rfl⟩
  rw [hK]
  have hes : ∀ q, (t.extract (64 * q) t.size).size = t.size - 64 * q := fun q => ext_size t (Nat.le_refl _)
  have h64 : (endL (t.extract (64 * K) t.size) t.size).length = 64 * ((endL (t.extract (64 * K) t.size) t.size).length / 64) := by
    have h1 := endL_len (t.extract (64 * K) t.size) t.size
    rw [hes] at h1
    have h2 : t.size - 64 * K < 64 := by omega
    generalize (endL (t.extract (64 * K) t.size) t.size).length = z at h1 ⊢
    omega
  have cS := summed_c (blkN (S8.of startL) t K) (t.extract (64 * K) t.size) t.size (by rw [hes]; omega) (by omega) _ h64
  have ht0 : t.extract (64 * 0) t.size = t := by rw [Nat.mul_zero]; exact ByteArray.extract_zero_size
  refine fun1_of_vc tb_ok mix (fn := Tryz.f45) Tryz.func45 rfl (by kernel_rfl) (by kernel_rfl) (by simp [Tryz.f45]) (by rfl) ?_
  (conv => whnf)
  refine ⟨LG (fun q : Nat => q ≤ K) (fun q => K - q) (fun q => AS.of [(0, .one (.lit (.string t))), (3, .one (.ptr 48 0)), (4, .one (.lit (.string (t.extract (64 * q) t.size))))] [(48, .var (blkN (S8.of startL) t q).cells)]),
    lg_init 0 (by omega) (weak_of (all_cons rfl (all_cons rfl (all_cons (eq_str rfl (by rw [ht0])) all_nil))) (all_cons (eq_var rfl start_cells) all_nil) rfl rfl), ?_⟩
  rintro σ k ⟨q, hq, rfl, rfl⟩
  have hsq := hes q
  refine ⟨_, Weak.refl _, ?_⟩
  (conv => whnf)
  (split <;> rename_i h <;> (try simp only [decide_eq_true_eq, decide_eq_false_iff_not, Bool.not_eq_true', Bool.not_eq_false', Bool.not_eq_true, Bool.not_eq_false, List.length_map] at h) <;> conv => whnf)
  · have hlt : q < K := by omega
    have hblk : (t.extract (64 * q) t.size).extract 0 64 = t.extract (64 * q) (64 * q + 64) := ext_ext t (by omega)
    refine ⟨by decide, by show (0 : Int) ≤ 64; decide, by simp only [Option.getD]; omega, t.extract (64 * q) (64 * q + 64), hblk.symm, ?_⟩; (conv => whnf)
    refine ⟨_, _, taken8_c (blkN (S8.of startL) t q) (t.extract (64 * q) (64 * q + 64)) (by rw [ext_size t (by omega)]; omega), (by repeat' (first | exact lends_nil | exact lend_dead | apply lends_cons | apply lend_agg | apply lend_one | exact all2_nil | apply all2_cons | exact la_lit rfl | exact la_int (by first | rfl | omega) | exact la_row rfl rfl | exact la_loc rfl rfl rfl (by first | rfl | simp [mkL_length]) (by first | rfl | simp) | exact la_nil rfl | apply la_fn rfl | exact lend_same rfl rfl | exact lend_bor rfl rfl)), ?_⟩; (conv => whnf)
    refine ⟨by decide, by simp only [Option.getD]; omega, by simp only [Option.getD]; omega, t.extract (64 * (q + 1)) t.size, ?_, ?_⟩
    · show _ = (t.extract (64 * q) t.size).extract 64 (t.extract (64 * q) t.size).size
      rw [ext_drop]; rfl
    (conv => whnf)
    exact lg_back (q + 1) (by omega) (by (try dsimp only); omega) (weak_of (all_cons rfl (all_cons rfl (all_cons rfl all_nil))) (all_cons rfl all_nil) rfl rfl)
  · have : q = K := by omega
    subst this
    refine ⟨_, _, long_c t, (by repeat' (first | exact lends_nil | exact lend_dead | apply lends_cons | apply lend_agg | apply lend_one | exact all2_nil | apply all2_cons | exact la_lit rfl | exact la_int (by first | rfl | omega) | exact la_row rfl rfl | exact la_loc rfl rfl rfl (by first | rfl | simp [mkL_length]) (by first | rfl | simp) | exact la_nil rfl | apply la_fn rfl | exact lend_same rfl rfl | exact lend_bor rfl rfl)), ?_⟩; (conv => whnf)
    refine ⟨_, _, cS, (by repeat' (first | exact lends_nil | exact lend_dead | apply lends_cons | apply lend_agg | apply lend_one | exact all2_nil | apply all2_cons | exact la_lit rfl | exact la_int (by first | rfl | omega) | exact la_row rfl rfl | exact la_loc rfl rfl rfl (by first | rfl | simp [mkL_length]) (by first | rfl | simp) | exact la_nil rfl | apply la_fn rfl | exact lend_same rfl rfl | exact lend_bor rfl rfl)), ?_⟩; (conv => whnf)
    exact ⟨close_str rfl, trivial⟩
end Go.Proofs.YtdbnppipgblajaaGreatDoor
namespace Go.Proofs.YtdbnppipgblajaaGreatDoor
open Go.RowKit
set_option linter.unusedSimpArgs false
set_option linter.unusedVariables false
set_option maxRecDepth 100000
set_option maxHeartbeats 4000000
theorem emp_app (t : ByteArray) : ByteArray.empty ++ t = t := by apply ByteArray.ext; apply Array.ext'; simp
theorem ext_ext2 (t : ByteArray) {a b c d : Nat} (h : a + d ≤ b) : (t.extract a b).extract c d = t.extract (a + c) (a + d) := by
  apply ByteArray.ext; apply Array.ext'
  rw [Lib.extract_data, Lib.extract_data, Lib.extract_data, List.drop_take, List.drop_drop, List.take_take]
  congr 1; omega
theorem ext_pre (x y : ByteArray) {a b : Nat} (h : b ≤ x.size) : (x ++ y).extract a b = x.extract a b := by
  apply ByteArray.ext; apply Array.ext'
  have hx : x.data.toList.length = x.size := by simp
  rw [Lib.extract_data, Lib.extract_data]
  rw [show (x ++ y).data.toList = x.data.toList ++ y.data.toList by simp]
  rcases Nat.le_total a x.size with h1 | h1
  · rw [List.drop_append_of_le_length (by omega), List.take_append_of_le_length (by rw [List.length_drop]; omega)]
  · rw [show b - a = 0 by omega, List.take_zero, List.take_zero]
theorem ext_post (x y : ByteArray) {a : Nat} (h : a ≤ x.size) : x.extract a x.size ++ y = (x ++ y).extract a (x ++ y).size := by
  apply ByteArray.ext; apply Array.ext'
  have hx : x.data.toList.length = x.size := by simp
  have hy : y.data.toList.length = y.size := by simp
  rw [show (x.extract a x.size ++ y).data.toList = (x.extract a x.size).data.toList ++ y.data.toList by simp, Lib.extract_data, Lib.extract_data]
  rw [show (x ++ y).data.toList = x.data.toList ++ y.data.toList by simp, ByteArray.size_append]
  rw [List.drop_append_of_le_length (by omega), List.take_of_length_le (by rw [List.length_drop]; omega), List.take_of_length_le (by rw [List.length_append, List.length_drop]; omega)]
theorem blocksN_pre (st : List UInt32) (x y : ByteArray) : ∀ n, 64 * n ≤ x.size → blocksN st (x ++ y) n = blocksN st x n
  | 0, _ => rfl
  | n + 1, h => by rw [blocksN, blocksN, blocksN_pre st x y n (by omega), ext_pre x y (by omega)]
theorem blocksN_split (st : List UInt32) (X : ByteArray) (k : Nat) : ∀ m, 64 * (k + m) ≤ X.size → blocksN (blocksN st X k) (X.extract (64 * k) X.size) m = blocksN st X (k + m)
  | 0, _ => rfl
  | m + 1, h => by
    rw [blocksN, blocksN_split st X k m (by omega), show k + (m + 1) = (k + m) + 1 by omega, blocksN, ext_ext2 X (by omega)]
    congr 2 <;> omega
/-- Two texts taken one behind the other are one text. -/
theorem moreF_two (st : List UInt32) (a b : ByteArray) : moreF (moreF ⟨st, .empty, 0⟩ a) b = moreF ⟨st, .empty, 0⟩ (a ++ b) := by
  unfold moreF
  simp only [emp_app]
  obtain ⟨K, hK⟩ : ∃ K, a.size / 64 = K := ⟨_, rfl⟩
  rw [hK]
  have hp := ext_post a b (a := 64 * K) (by omega)
  rw [hp]
  obtain ⟨X, hX⟩ : ∃ X, a ++ b = X := ⟨_, rfl⟩
  have hXs : X.size = a.size + b.size := by rw [← hX, ByteArray.size_append]
  have hpre := blocksN_pre st a b K (by omega)
  rw [hX] at hpre ⊢
  rw [ext_size X (Nat.le_refl _), ← hpre, ext_ext2 X (by omega)]
  obtain ⟨M, hM⟩ : ∃ M, (X.size - 64 * K) / 64 = M := ⟨_, rfl⟩
  have hKM : X.size / 64 = K + M := by omega
  rw [hM, hKM, blocksN_split st X K M (by omega)]
  congr 1
  · congr 1 <;> omega
  · omega
theorem digest_eq (t : ByteArray) : bytesOf (outL (blkN (blkN (S8.of startL) t (t.size / 64)) (bytesOf (endL (t.extract (64 * (t.size / 64)) t.size) t.size)) ((endL (t.extract (64 * (t.size / 64)) t.size) t.size).length / 64)).list) = digF t := by
  unfold digF endF
  have e1 : moreF ⟨startL, .empty, 0⟩ t = ⟨blocksN startL t (t.size / 64), t.extract (64 * (t.size / 64)) t.size, (t.size : Int)⟩ := by unfold moreF; simp only [emp_app]; rw [Int.zero_add]
  rw [e1]
  unfold moreF
  simp only [Int.toNat_natCast]
  have e2 : t.extract (64 * (t.size / 64)) t.size ++ bytesOf (padL (t.extract (64 * (t.size / 64)) t.size).size t.size) = bytesOf (endL (t.extract (64 * (t.size / 64)) t.size) t.size) := by
    unfold endL
    rw [← bytes_app, bytes_of]
  rw [e2, blkN_list, blkN_list, bytes_size, show (S8.of startL).list = startL from rfl]
theorem digImpl_c (t : ByteArray) (ht : t.size ≤ 1000000000) : Fun1 Tryz.prog 45 [.one (.lit (.string t))] (.one (.lit (.string (digF t)))) := by
  have := digestImpl_c t ht
  rw [digest_eq] at this
  exact this
theorem l09Digest_c (a b : ByteArray) (ha : a.size ≤ 1000000) (hb : b.size ≤ 1000000) : Fun1 Tryz.prog 86 [.one (.lit (.string a)), .one (.lit (.string b))] (.one (.lit (.string (digF (a ++ b))))) := by
  have h1 := l05More_c ⟨startL, .empty, 0⟩ rfl (by decide) (by decide) a (by omega)
  have hg := more_good good0 (t := a) (by show (0 : Int) + (a.size : Int) ≤ 1099511627776; omega)
  have h2 := l05More_c (moreF ⟨startL, .empty, 0⟩ a) hg.st ⟨hg.s0, by have := hg.s1; omega⟩ (by have := hg.r; omega) b (by omega)
  have hg2 := more_good hg (t := b) (by show (0 : Int) + (a.size : Int) + (b.size : Int) ≤ 1099511627776; omega)
  have h3 := l05End_c _ hg2
  rw [show endF (moreF (moreF ⟨startL, .empty, 0⟩ a) b) = digF (a ++ b) by rw [moreF_two]; rfl] at h3
  refine fun1_of_vc tb_ok mix (fn := Tryz.f86) Tryz.func86 rfl (by kernel_rfl) (by kernel_rfl) (by simp [Tryz.f86]) (by rfl) ?_
  (conv => whnf)
  refine ⟨_, _, hashBegin_c, (by repeat' (first | exact lends_nil | exact lend_dead | apply lends_cons | apply lend_agg | apply lend_one | exact all2_nil | apply all2_cons | exact la_lit rfl | exact la_int (by first | rfl | omega) | exact la_row rfl rfl | exact la_loc rfl rfl rfl (by first | rfl | simp [mkL_length]) (by first | rfl | simp) | exact la_nil rfl | apply la_fn rfl | exact lend_same rfl rfl | exact lend_bor rfl rfl)), ?_⟩; (conv => whnf)
  refine ⟨_, _, h1, (by repeat' (first | exact lends_nil | exact lend_dead | apply lends_cons | apply lend_agg | apply lend_one | exact all2_nil | apply all2_cons | exact la_lit rfl | exact la_int (by first | rfl | omega) | exact la_row rfl rfl | exact la_loc rfl rfl rfl (by first | rfl | simp [mkL_length]) (by first | rfl | simp) | exact la_nil rfl | apply la_fn rfl | exact lend_same rfl rfl | exact lend_bor rfl rfl)), ?_⟩; (conv => whnf)
  refine ⟨_, _, h2, (by repeat' (first | exact lends_nil | exact lend_dead | apply lends_cons | apply lend_agg | apply lend_one | exact all2_nil | apply all2_cons | exact la_lit rfl | exact la_int (by first | rfl | omega) | exact la_row rfl rfl | exact la_loc rfl rfl rfl (by first | rfl | simp [mkL_length]) (by first | rfl | simp) | exact la_nil rfl | apply la_fn rfl | exact lend_same rfl rfl | exact lend_bor rfl rfl)), ?_⟩; (conv => whnf)
  refine ⟨_, _, h3, (by repeat' (first | exact lends_nil | exact lend_dead | apply lends_cons | apply lend_agg | apply lend_one | exact all2_nil | apply all2_cons | exact la_lit rfl | exact la_int (by first | rfl | omega) | exact la_row rfl rfl | exact la_loc rfl rfl rfl (by first | rfl | simp [mkL_length]) (by first | rfl | simp) | exact la_nil rfl | apply la_fn rfl | exact lend_same rfl rfl | exact lend_bor rfl rfl)), ?_⟩; (conv => whnf)
  exact ⟨close_str rfl, trivial⟩
end Go.Proofs.YtdbnppipgblajaaGreatDoor
namespace Go.Proofs.YtdbnppipgblajaaGreatDoor
open Go.RowKit
set_option linter.unusedSimpArgs false
set_option linter.unusedVariables false
set_option maxRecDepth 100000
set_option maxHeartbeats 4000000
def numL : Nat → Nat → List UInt8
  | 0, u => [UInt8.ofNat u]
  | f + 1, u => if 128 ≤ u then UInt8.ofNat (u % 128 + 128) :: numL f (u / 128) else [UInt8.ofNat u]
theorem numL_len : ∀ f u, 1 ≤ (numL f u).length ∧ (numL f u).length ≤ f + 1
  | 0, u => ⟨Nat.le_refl _, Nat.le_refl _⟩
  | f + 1, u => by
    unfold numL
    have := numL_len f (u / 128)
    split <;> simp <;> omega
/-- A number in bytes. -/
def putN (n : Nat) : ByteArray := txtOf (numL 10 (2 * n))
theorem putN_size (n : Nat) : (putN n).size ≤ 11 := (numL_len 10 (2 * n)).2
def numI (R : List UInt8) (p : List UInt8 × Nat × Nat) : Prop := p.2.1 < 128 ^ (p.2.2 + 1) ∧ p.2.1 < 4611686018427387904 ∧ p.1.length + p.2.2 = 10 ∧ p.1 ++ numL p.2.2 p.2.1 = R
theorem numI_step {R d : List UInt8} {u f : Nat} (h : numI R (d, u, f)) (hu : 128 ≤ u) : ∃ g, f = g + 1 ∧ numI R (d ++ [UInt8.ofNat (u % 128 + 128)], u / 128, g) := by
  obtain ⟨h1, h2, h3, h4⟩ := h
  simp only at h1 h2 h3 h4
  cases f with
  | zero => simp at h1; omega
  | succ g =>
    refine ⟨g, rfl, ?_, ?_, ?_, ?_⟩
    · show u / 128 < 128 ^ (g + 1)
      rw [Nat.pow_succ] at h1
      exact Nat.div_lt_of_lt_mul (by omega)
    · show u / 128 < _; omega
    · show (d ++ [_]).length + g = 10; simp; omega
    · show (d ++ [UInt8.ofNat (u % 128 + 128)]) ++ numL g (u / 128) = R
      rw [← h4, numL, if_pos hu, List.append_assoc]; rfl
theorem numI_end {R d : List UInt8} {u f : Nat} (h : numI R (d, u, f)) (hu : ¬ 128 ≤ u) : d ++ [UInt8.ofNat u] = R := by
  obtain ⟨_, _, _, h4⟩ := h
  simp only at h4
  rw [← h4]
  cases f with
  | zero => rfl
  | succ g => rw [numL, if_neg hu]
theorem numI_zero {n : Nat} (hn : n < 1099511627776) : numI (numL 10 (2 * n)) ([], 2 * n, 10) := ⟨by show 2 * n < 128 ^ 11; omega, by show 2 * n < _; omega, rfl, rfl⟩
theorem wrapU {n : Nat} (h : n < 18446744073709551616) : IntKind.u64.wrap (n : Int) = (n : Int) := by rw [IntKind.wrap_u64]; omega
theorem and127 {u : Nat} (h : u < 4611686018427387904) : bits .and .u64 (u : Int) 127 = ((u % 128 : Nat) : Int) := by
  show IntKind.u64.wrap ((BitVec.ofInt 64 (u : Int) &&& BitVec.ofInt 64 ((127 : Nat) : Int)).toNat : Int) = _
  rw [BitVec.toNat_and, ofIntN _ (by omega), ofIntN _ (by omega), show (127 : Nat) = 2 ^ 7 - 1 from rfl, Nat.and_two_pow_sub_one_eq_mod]
  exact wrapU (by omega)
theorem or128 {x : Nat} (h : x < 128) : bits .or .u8 (x : Int) 128 = (((UInt8.ofNat (x + 128)).toNat : Nat) : Int) := by
  show IntKind.u8.wrap ((BitVec.ofInt 8 (x : Int) ||| BitVec.ofInt 8 ((128 : Nat) : Int)).toNat : Int) = _
  rw [BitVec.toNat_or, ofIntN _ (by omega), ofIntN _ (by omega), (by decide +kernel : ∀ x, x < 128 → x ||| 128 = x + 128) x h]
  exact u8_wrapI _
theorem xor0U {u : Nat} (h : u < 4611686018427387904) : bits .xor .u64 (u : Int) 0 = (u : Int) := by
  show IntKind.u64.wrap ((BitVec.ofInt 64 (u : Int) ^^^ BitVec.ofInt 64 ((0 : Nat) : Int)).toNat : Int) = _
  rw [BitVec.toNat_xor, ofIntN _ (by omega), ofIntN _ (by omega), Nat.xor_zero]
  exact wrapU (by omega)
abbrev vU (n : Nat) : AV := .lit (.int .u64 (n : Int))
theorem putImpl_c {n : Nat} (hn : n < 1099511627776) : Fun1 Tryz.prog 98 [.one (.lit (.int .i64 (n : Int)))] (.one (.lit (.string (putN n)))) := by
  refine fun1_of_vc tb_ok mix (fn := Tryz.f98) Tryz.func98 rfl (by kernel_rfl) (by kernel_rfl) (by simp [Tryz.f98]) (by rfl) ?_
  (conv => whnf)
  refine ⟨(n : Int), (wrapU (by omega)).symm, ?_⟩; (conv => whnf)
  refine ⟨by decide, ((2 * n : Nat) : Int), ?_, ?_⟩
  · show _ = IntKind.u64.wrap ((n : Int) * 2)
    rw [show (n : Int) * 2 = ((2 * n : Nat) : Int) by omega]; exact (wrapU (by omega)).symm
  (conv => whnf)
  refine ⟨by decide, 0, ?_, ?_⟩
  · show (0 : Int) = (n : Int).fdiv (2 ^ 63)
    rw [Int.fdiv_eq_ediv_of_nonneg _ (by omega)]; omega
  (conv => whnf)
  refine ⟨0, by decide, ?_⟩; (conv => whnf)
  rw [xor0U (by omega)]
  refine ⟨LG (numI (numL 10 (2 * n))) (fun p => p.2.1) (fun p => AS.of [(3, .one (vU p.2.1)), (4, .one (.loc 320 0 p.1.length))] [(320, .row true 1 (p.1.map byteE))]),
    lg_init ([], 2 * n, 10) (numI_zero hn) (weak_nil 4 320 1 rfl rfl (weak_of (by repeat (first | refine all_cons (by first | rfl | exact eq_int rfl (by first | rfl | omega | (simp; done) | (simp; omega)) | exact eq_loc rfl (by first | rfl | omega | (simp; done) | (simp; omega)) | exact eq_bool rfl (by simp_all)) ?_ | exact all_nil)) (by repeat (first | refine all_cons (by first | rfl | exact eq_int rfl (by first | rfl | omega | (simp; done) | (simp; omega)) | exact eq_loc rfl (by first | rfl | omega | (simp; done) | (simp; omega)) | exact eq_bool rfl (by simp_all)) ?_ | exact all_nil)) rfl rfl)), ?_⟩
  rintro σ k ⟨⟨d, u, f⟩, hI, hk, rfl⟩
  have ⟨h1, h2, h3, h4⟩ := hI
  simp only at h1 h2 h3 h4 hk
  refine ⟨_, Weak.refl _, ?_⟩
  (conv => whnf)
  (split <;> rename_i h <;> (try simp only [decide_eq_true_eq, decide_eq_false_iff_not, Bool.not_eq_true', Bool.not_eq_false', Bool.not_eq_true, Bool.not_eq_false, List.length_map] at h) <;> conv => whnf)
  · obtain ⟨g, rfl, hI'⟩ := numI_step hI (by omega)
    have ha := and127 (u := u) h2
    rw [ha]
    refine ⟨((u % 128 : Nat) : Int), by rw [IntKind.wrap_u8]; omega, ?_⟩; (conv => whnf)
    rw [or128 (by omega : u % 128 < 128)]
    refine ⟨true, [byteE (UInt8.ofNat (u % 128 + 128))], ⟨rfl, by simp [chunk], rfl, rfl⟩, ?_⟩; (conv => whnf)
    refine ⟨_, laid_map (f := byteE) (fun _ => rfl) [UInt8.ofNat (u % 128 + 128)], rfl, by simp, rfl, by simp [maxLen]; omega, by simp; omega, ?_⟩; (conv => whnf)
    refine ⟨by decide, ((u / 128 : Nat) : Int), ?_, ?_⟩
    · show _ = (u : Int).fdiv (2 ^ 7)
      rw [Int.fdiv_eq_ediv_of_nonneg _ (by omega)]; omega
    (conv => whnf)
    exact lg_back (d ++ [UInt8.ofNat (u % 128 + 128)], u / 128, g) hI' (by show u / 128 < k; omega) (weak_of (all_cons rfl (all_cons (eq_loc rfl (by simp)) all_nil)) (all_cons (eq_row rfl (by simp)) all_nil) rfl rfl)
  · have he := numI_end hI (by omega)
    refine ⟨_, (u8_wrapI u).symm, ?_⟩; (conv => whnf)
    refine ⟨true, [byteE (UInt8.ofNat u)], ⟨rfl, by simp [chunk], rfl, rfl⟩, ?_⟩; (conv => whnf)
    refine ⟨_, laid_map (f := byteE) (fun _ => rfl) [UInt8.ofNat u], rfl, by simp, rfl, by simp [maxLen]; omega, by simp; omega, ?_⟩; (conv => whnf)
    refine ⟨true, _, d ++ [UInt8.ofNat u], ⟨rfl, by simp, rfl, rfl⟩, by rw [List.drop_zero, List.map_append]; exact List.take_of_length_le (by simp), ?_⟩; (conv => whnf)
    exact ⟨close_str (by rw [he]; rfl), trivial⟩
theorem fold_c {n : Nat} (hn : n < 1099511627776) : Fun1 Tryz.prog 120 [.one (.lit (.int .i64 (n : Int)))] (.one (vU (2 * n))) := by
  refine fun1_of_vc tb_ok mix (fn := Tryz.f120) Tryz.func120 rfl (by kernel_rfl) (by kernel_rfl) (by simp [Tryz.f120]) (by rfl) ?_
  (conv => whnf)
  refine ⟨(n : Int), (wrapU (by omega)).symm, ?_⟩; (conv => whnf)
  refine ⟨((2 * n : Nat) : Int), by rw [show (2 * (n : Int)) = ((2 * n : Nat) : Int) by omega]; exact (wrapU (by omega)).symm, ?_⟩; (conv => whnf)
  exact ⟨close_int rfl, trivial⟩
theorem putSpec_c {n : Nat} (hn : n < 1099511627776) : Fun1 Tryz.prog 104 [.one (.lit (.int .i64 (n : Int)))] (.one (.lit (.string (putN n)))) := by
  refine fun1_of_vc tb_ok mix (fn := Tryz.f104) Tryz.func104 rfl (by kernel_rfl) (by kernel_rfl) (by simp [Tryz.f104]) (by rfl) ?_
  (conv => whnf)
  refine ⟨_, _, fold_c hn, (by repeat' (first | exact lends_nil | exact lend_dead | apply lends_cons | apply lend_agg | apply lend_one | exact all2_nil | apply all2_cons | exact la_lit rfl | exact la_int (by first | rfl | omega) | exact la_row rfl rfl | exact la_loc rfl rfl rfl (by first | rfl | simp [mkL_length]) (by first | rfl | simp) | exact la_nil rfl | apply la_fn rfl | exact lend_same rfl rfl | exact lend_bor rfl rfl)), ?_⟩; (conv => whnf)
  refine ⟨LG (numI (numL 10 (2 * n))) (fun p => p.2.1) (fun p => AS.of [(3, .one (vU p.2.1)), (4, .one (.loc 112 0 p.1.length))] [(112, .row true 1 (p.1.map byteE))]),
    lg_init ([], 2 * n, 10) (numI_zero hn) (weak_of (by repeat (first | refine all_cons (by first | rfl | exact eq_int rfl (by first | rfl | omega | (simp; done) | (simp; omega)) | exact eq_loc rfl (by first | rfl | omega | (simp; done) | (simp; omega)) | exact eq_bool rfl (by simp_all)) ?_ | exact all_nil)) (by repeat (first | refine all_cons (by first | rfl | exact eq_int rfl (by first | rfl | omega | (simp; done) | (simp; omega)) | exact eq_loc rfl (by first | rfl | omega | (simp; done) | (simp; omega)) | exact eq_bool rfl (by simp_all)) ?_ | exact all_nil)) rfl rfl), ?_⟩
  rintro σ k ⟨⟨d, u, f⟩, hI, hk, rfl⟩
  have ⟨h1, h2, h3, h4⟩ := hI
  simp only at h1 h2 h3 h4 hk
  refine ⟨_, Weak.refl _, ?_⟩
  (conv => whnf)
  (split <;> rename_i h <;> (try simp only [decide_eq_true_eq, decide_eq_false_iff_not, Bool.not_eq_true', Bool.not_eq_false', Bool.not_eq_true, Bool.not_eq_false, List.length_map] at h) <;> conv => whnf)
  · obtain ⟨g, rfl, hI'⟩ := numI_step hI (by omega)
    refine ⟨by decide, ((u % 128 : Nat) : Int), rfl, ?_⟩; (conv => whnf)
    refine ⟨((u % 128 + 128 : Nat) : Int), by rw [IntKind.wrap_u64]; omega, ?_⟩; (conv => whnf)
    refine ⟨_, (u8_wrapI (u % 128 + 128)).symm, ?_⟩; (conv => whnf)
    refine ⟨true, [byteE (UInt8.ofNat (u % 128 + 128))], ⟨rfl, by simp [chunk], rfl, rfl⟩, ?_⟩; (conv => whnf)
    refine ⟨_, laid_map (f := byteE) (fun _ => rfl) [UInt8.ofNat (u % 128 + 128)], rfl, by simp, rfl, by simp [maxLen]; omega, by simp; omega, ?_⟩; (conv => whnf)
    refine ⟨by decide, ((u / 128 : Nat) : Int), by rw [show (u : Int).tdiv 128 = ((u / 128 : Nat) : Int) from rfl]; exact (wrapU (by omega)).symm, ?_⟩; (conv => whnf)
    exact lg_back (d ++ [UInt8.ofNat (u % 128 + 128)], u / 128, g) hI' (by show u / 128 < k; omega) (weak_of (all_cons rfl (all_cons (eq_loc rfl (by simp)) all_nil)) (all_cons (eq_row rfl (by simp)) all_nil) rfl rfl)
  · have he := numI_end hI (by omega)
    refine ⟨_, (u8_wrapI u).symm, ?_⟩; (conv => whnf)
    refine ⟨true, [byteE (UInt8.ofNat u)], ⟨rfl, by simp [chunk], rfl, rfl⟩, ?_⟩; (conv => whnf)
    refine ⟨_, laid_map (f := byteE) (fun _ => rfl) [UInt8.ofNat u], rfl, by simp, rfl, by simp [maxLen]; omega, by simp; omega, ?_⟩; (conv => whnf)
    refine ⟨true, _, d ++ [UInt8.ofNat u], ⟨rfl, by simp, rfl, rfl⟩, by rw [List.drop_zero, List.map_append]; exact List.take_of_length_le (by simp), ?_⟩; (conv => whnf)
    exact ⟨close_str (by rw [he]; rfl), trivial⟩
end Go.Proofs.YtdbnppipgblajaaGreatDoor
namespace Go.Proofs.YtdbnppipgblajaaGreatDoor
open Go.RowKit
set_option linter.unusedSimpArgs false
set_option linter.unusedVariables false
set_option maxRecDepth 100000
set_option maxHeartbeats 4000000
theorem tyI64 : ∃ inf : TypeInfo, ∃ z : Value, Tryz.prog.underlying 86 = some (.slice 2) ∧ Tryz.prog.info? 2 = some inf ∧ inf.size = 1 ∧ inf.bytes = 8 ∧ inf.zero = some z ∧ z.cells.size = 1 := by
  refine ⟨_, _, rfl, rfl, rfl, rfl, rfl, rfl⟩
theorem growNil (w : World) (n : Nat) (h0 : 0 < n) (hn : n ≤ 1099511627776) :
    Calls Tryz.prog 125 #[.slice none 0 0, .int .i64 n] w fun e w' => e = .returned (.slice (some ⟨w.heap.size, 0, none⟩) 0 (grownCap w n 0 2)) ∧ ∃ zc : Array Value, zc.size = 1 ∧
      w' = w.drew.alloc (.cells (Builtin.zeroCells zc n ++ Builtin.zeroCells zc (grownCap w n 0 2 - n)) 2) := by
  obtain ⟨inf, z, hu, hi, hs, hb, hz, hzs⟩ := tyI64
  have htn : Tryz.prog.underlying 3 = some (.int .i64) := by rfl
  have hrun := fun ty => Lib.run_append_nil_zeros (P := Tryz.prog) w 86 3 ty 2 inf z .i64 .i64 hu htn hi hz n h0 (by omega) (by omega) (by rw [hb]; omega)
  generalize z.cells = zc at hrun hzs
  have h1 : ¬ ((n : Int) < 0) := by omega
  have h2 : (0 : Int) < (n : Int) := by omega
  have hw : IntKind.i64.wrap ((n : Int) - 0) = (n : Int) := by rw [IntKind.wrap_i64]; omega
  clear hz
  go_enter Tryz.func125, Tryz.ntmps125
  go_wp2_with (at_builtin; refine Lib.wpList_append_run _ rfl _ _ _ _ rfl _ _ rfl rfl _ _ (hrun _) ?_)
  go_ret
  exact ⟨rfl, _, hzs, rfl⟩
theorem growZero (w : World) : Calls Tryz.prog 125 #[.slice none 0 0, .int .i64 (0 : Nat)] w fun e w' => e = .returned (.slice none 0 0) ∧ w' = w := by
  go_enter Tryz.func125, Tryz.ntmps125
  go_wp2
  go_ret
  exact ⟨rfl, rfl⟩
theorem unfz1 (C : Array Value) : Unfz 1 C (0, 0) := fun i _ => by simp
theorem grow_c (n : Nat) (hn : n ≤ 1099511627776) : Fun1 Tryz.prog 125 [.one (.lit (.slice none 0 0)), .one (vN n)] (.one (.row true 1 [])) := by
  refine ⟨⟨_, Tryz.func125, by kernel_rfl, by kernel_rfl⟩, rfl, fun w I vs hI _ hargs => ?_⟩
  obtain ⟨vs⟩ := vs
  match vs, hargs with
  | [x, y], hargs =>
    have hx := hargs.1.1
    have hy := hargs.2.1.1
    cases hx; cases hy
    rcases Nat.eq_zero_or_pos n with rfl | h0
    · refine (growZero w).mono ?_
      rintro e w' ⟨rfl, rfl⟩
      exact ⟨_, fun _ => False, rfl, ⟨.nil (fun _ h => h), rfl⟩, fun _ h => h.elim, Bel.refl _ _⟩
    · refine (growNil w n h0 hn).mono ?_
      rintro e w' ⟨rfl, zc, hz, rfl⟩
      have hcap := grownCap_ge w n 0 2
      have hmx := grownCap_le_maxLen w n 0 2 (by simp only [maxLen]; omega)
      refine ⟨_, fun k => k = w.heap.size, rfl, ⟨.own w.heap.size _ _ _ (fun _ _ _ => False) (heap_alloc_new w.drew _) (unfz1 _) (Nat.zero_le _) hmx ?_ (by simp) (by simp [elt]) (by simp [elt]) (fun _ _ h => h) (fun _ _ _ _ _ h => h.elim) (fun _ _ _ h => h.elim) (fun k => ⟨.inl, fun h => h.resolve_right (by simp)⟩) (fun _ => rfl), rfl⟩, fun k hk => ?_, ?_⟩
      · rw [Array.size_append, size_zeroCells, size_zeroCells, hz]; omega
      · subst hk; simp
      · exact ((Bel.refl _ _).drew).alloc (Nat.le_refl _) _
theorem flat_take_succ {α : Type} {l : List (List α)} {i : Nat} (h : i < l.length) : (l.take (i + 1)).flatten = (l.take i).flatten ++ l[i] := by
  rw [List.take_succ_eq_append_getElem h, List.flatten_append]; simp
theorem flat_take_le {α : Type} (l : List (List α)) (i : Nat) : (l.take i).flatten.length ≤ l.flatten.length := by
  have : l.flatten = (l.take i).flatten ++ (l.drop i).flatten := by rw [← List.flatten_append, List.take_append_drop]
  rw [this, List.length_append]; omega
abbrev rN (r : List Nat) : List AV := [.row true 1 (r.map fun n => [vN n])]
theorem concat_c (rs : List (List Nat)) (h1 : rs.length ≤ 4294967296) (h2 : rs.flatten.length ≤ 4294967296) : Fun1 Tryz.prog 114 [.one (.row true 1 (rs.map rN))] (.one (.row true 1 (rs.flatten.map fun n => [vN n]))) := by
  refine fun1_of_vc tb_ok mix (fn := Tryz.f114) Tryz.func114 rfl (by kernel_rfl) (by kernel_rfl) (by simp [Tryz.f114]) (by show AV.nb (4 + 1) _ = true; exact nb_map (n := 4) (fun y => rfl) _) ?_
  (conv => whnf)
  refine ⟨LG (fun i : Nat => i ≤ rs.length) (fun i => rs.length - i) (fun i => AS.of [(0, .one (.row true 1 (rs.map rN))), (3, .one (vN (rs.take i).flatten.length)), (9, .one (.row true 1 (rs.map rN))), (10, .one (vN rs.length)), (11, .one (vN i))] []), lg_init 0 (by omega) (weak_of (all_cons rfl (all_cons (eq_int rfl (by simp)) (all_cons rfl (all_cons (eq_int rfl (by simp)) (all_cons rfl all_nil))))) all_nil rfl rfl), ?_⟩
  rintro σ k ⟨i, hi, rfl, rfl⟩
  have hle := flat_take_le rs i
  have hle1 := flat_take_le rs (i + 1)
  refine ⟨_, Weak.refl _, ?_⟩
  (conv => whnf)
  (split <;> rename_i h <;> (try simp only [decide_eq_true_eq, decide_eq_false_iff_not, Bool.not_eq_true', Bool.not_eq_false', Bool.not_eq_true, Bool.not_eq_false, List.length_map] at h) <;> conv => whnf)
  · have hlt : i < rs.length := by omega
    have hfs := flat_take_succ hlt
    have hl2 : (rs.take (i + 1)).flatten.length = (rs.take i).flatten.length + rs[i].length := by rw [hfs, List.length_append]
    refine ⟨i, rfl, _, at_map hlt, ?_⟩; (conv => whnf)
    refine ⟨((rs.take (i + 1)).flatten.length : Nat), by rw [← wrap64_id] <;> simp only [List.length_map] <;> omega, ?_⟩; (conv => whnf)
    (refine ⟨((i + 1 : Nat) : Int), by rw [← wrap64_id] <;> omega, ?_⟩; conv => whnf)
    exact lg_back (i + 1) (by omega) (by (try dsimp only); omega) (weak_of (by repeat (first | refine all_cons (by first | rfl | exact eq_int rfl (by first | rfl | omega | (simp; done) | (simp; omega)) | exact eq_loc rfl (by first | rfl | omega | (simp; done) | (simp; omega)) | exact eq_bool rfl (by simp_all)) ?_ | exact all_nil)) (by repeat (first | refine all_cons (by first | rfl | exact eq_int rfl (by first | rfl | omega | (simp; done) | (simp; omega)) | exact eq_loc rfl (by first | rfl | omega | (simp; done) | (simp; omega)) | exact eq_bool rfl (by simp_all)) ?_ | exact all_nil)) rfl rfl)
  · have : i = rs.length := by omega
    subst this
    refine ⟨_, _, grow_c (rs.take rs.length).flatten.length (by omega), (by repeat' (first | exact lends_nil | exact lend_dead | apply lends_cons | apply lend_agg | apply lend_one | exact all2_nil | apply all2_cons | exact la_lit rfl | exact la_int (by first | rfl | omega) | exact la_row rfl rfl | exact la_loc rfl rfl rfl (by first | rfl | simp [mkL_length]) (by first | rfl | simp) | exact la_nil rfl | apply la_fn rfl | exact lend_same rfl rfl | exact lend_bor rfl rfl)), ?_⟩; (conv => whnf)
    refine ⟨LG (fun i : Nat => i ≤ rs.length) (fun i => rs.length - i) (fun i => AS.of [(6, .one (.loc 384 0 (rs.take i).flatten.length)), (25, .one (.row true 1 (rs.map rN))), (26, .one (vN rs.length)), (27, .one (vN i))] [(384, .row true 1 ((rs.take i).flatten.map fun n => [vN n]))]), lg_init 0 (by omega) (weak_of (all_cons rfl (all_cons rfl (all_cons (eq_int rfl (by simp)) (all_cons rfl all_nil)))) (all_cons rfl all_nil) rfl rfl), ?_⟩
    rintro σ k ⟨i, hi, rfl, rfl⟩
    have hle := flat_take_le rs i
    have hle1 := flat_take_le rs (i + 1)
    refine ⟨_, Weak.refl _, ?_⟩
    (conv => whnf)
    (split <;> rename_i h <;> (try simp only [decide_eq_true_eq, decide_eq_false_iff_not, Bool.not_eq_true', Bool.not_eq_false', Bool.not_eq_true, Bool.not_eq_false, List.length_map] at h) <;> conv => whnf)
    · have hlt : i < rs.length := by omega
      have hfs := flat_take_succ hlt
      have hl2 : (rs.take (i + 1)).flatten.length = (rs.take i).flatten.length + rs[i].length := by rw [hfs, List.length_append]
      refine ⟨i, rfl, _, at_map hlt, ?_⟩; (conv => whnf)
      refine ⟨true, rs[i].map (fun n => [vN n]), ⟨rfl, rfl, rfl⟩, ?_⟩; (conv => whnf)
      refine ⟨_, laid_map (f := fun n => [vN n]) (fun _ => rfl) rs[i], rfl, by rw [List.length_map], rfl, by simp only [maxLen, List.length_map]; omega, by simp only [List.length_map]; omega, ?_⟩; (conv => whnf)
      (refine ⟨((i + 1 : Nat) : Int), by rw [← wrap64_id] <;> omega, ?_⟩; conv => whnf)
      exact lg_back (i + 1) (by omega) (by (try dsimp only); omega) (weak_of (all_cons (eq_loc rfl (by rw [hl2, List.length_map, List.length_map])) (all_cons rfl (all_cons rfl (all_cons rfl all_nil)))) (all_cons (eq_row rfl (by rw [hfs, List.map_append])) all_nil) rfl rfl)
    · have : i = rs.length := by omega
      subst this
      exact ⟨close_row rfl rfl (by rw [List.length_map]) (by rw [List.take_length]), trivial⟩
end Go.Proofs.YtdbnppipgblajaaGreatDoor
namespace Go.Proofs.YtdbnppipgblajaaGreatDoor
open Go.RowKit
set_option linter.unusedSimpArgs false
set_option linter.unusedVariables false
/-- What each element gives, one behind the other; each is told its number. -/
def accI {α β : Type} (f : Nat → α → List β) : Nat → List α → List β
  | _, [] => []
  | i, x :: xs => f i x ++ accI f (i + 1) xs
theorem accI_append {α β : Type} (f : Nat → α → List β) : ∀ (xs ys : List α) (i : Nat), accI f i (xs ++ ys) = accI f i xs ++ accI f (i + xs.length) ys
  | [], ys, i => by simp [accI]
  | x :: xs, ys, i => by
    simp only [List.cons_append, accI, accI_append f xs ys (i + 1), List.append_assoc, List.length_cons]
    rw [show i + 1 + xs.length = i + (xs.length + 1) by omega]
theorem accI_take_succ {α β : Type} {f : Nat → α → List β} {l : List α} {i : Nat} (h : i < l.length) : accI f 0 (l.take (i + 1)) = accI f 0 (l.take i) ++ f i l[i] := by
  rw [List.take_succ_eq_append_getElem h, accI_append]
  simp only [accI, List.append_nil, List.length_take, Nat.zero_add]
  rw [Nat.min_eq_left (by omega)]
theorem accI_len {α β : Type} {f : Nat → α → List β} {g : α → Nat} (h : ∀ i x, (f i x).length ≤ g x) : ∀ (l : List α) (i : Nat), (accI f i l).length ≤ (l.map g).sum
  | [], i => by simp [accI]
  | x :: l, i => by
    have h1 := h i x
    have h2 := accI_len h l (i + 1)
    simp only [accI, List.length_append, List.map_cons, List.sum_cons]; omega
theorem accI_len_le {α β : Type} {f : Nat → α → List β} {g : α → Nat} (h : ∀ i x, (f i x).length ≤ g x) (l : List α) (i : Nat) : (accI f 0 (l.take i)).length ≤ (l.map g).sum :=
  Nat.le_trans (accI_len h _ 0) (sum_take_le g l i)
theorem accI_mem {α β : Type} {f : Nat → α → List β} : ∀ {l : List α} {i : Nat} {y : β}, y ∈ accI f i l → ∃ j x, x ∈ l ∧ i ≤ j ∧ j < i + l.length ∧ y ∈ f j x
  | [], i, y, h => by simp [accI] at h
  | x :: l, i, y, h => by
    simp only [accI, List.mem_append] at h
    rcases h with h | h
    · exact ⟨i, x, by simp, Nat.le_refl _, by simp, h⟩
    · obtain ⟨j, z, h1, h2, h3, h4⟩ := accI_mem h
      exact ⟨j, z, by simp [h1], by omega, by simp; omega, h4⟩
def codeOk (k m : Int) : Bool := decide (1 ≤ k) && decide (k ≤ 8) && decide (0 ≤ m) && decide (m ≤ 6)
def arrayOk (x : DArray) : Bool := codeOk x.k x.m && decide ((x.drives.length : Int) = x.k + x.m) && x.drives.all driveOk
def rmOp (name : ByteArray) : DOp := ⟨4, name, .empty, .empty⟩
def rmStep (i : Nat) (name : ByteArray) : DStep := ⟨(i : Nat), rmOp name⟩
def isTmp (s : ByteArray) : Bool := decide (2 ≤ s.size) && decide (s.extract 0 2 = ⟨#[116, 45]⟩)
theorem arrayOk_len {x : DArray} (h : arrayOk x = true) : x.drives.length ≤ 14 ∧ (∀ d ∈ x.drives, driveOk d = true) ∧ 1 ≤ x.k ∧ x.k ≤ 8 ∧ 0 ≤ x.m ∧ x.m ≤ 6 ∧ (x.drives.length : Int) = x.k + x.m := by
  simp only [arrayOk, codeOk, Bool.and_eq_true, decide_eq_true_eq, List.all_eq_true] at h
  obtain ⟨⟨⟨⟨⟨h1, h2⟩, h3⟩, h4⟩, h5⟩, h6⟩ := h
  exact ⟨by omega, h6, h1, h2, h3, h4, h5⟩
end Go.Proofs.YtdbnppipgblajaaGreatDoor
namespace Go.Proofs.YtdbnppipgblajaaGreatDoor
open Go.RowKit
set_option linter.unusedSimpArgs false
set_option linter.unusedVariables false
set_option maxRecDepth 100000
set_option maxHeartbeats 4000000
def begins (s p : ByteArray) : Bool := decide (p.size ≤ s.size) && decide (s.extract 0 p.size = p)
theorem hasPrefix2_c (s p : ByteArray) : Fun1 Tryz.prog 65 [.one (.lit (.string s)), .one (.lit (.string p))] (.one (.lit (.bool (begins s p)))) := by
  refine fun1_of_vc tb_ok mix (fn := Tryz.f65) Tryz.func65 rfl (by kernel_rfl) (by kernel_rfl) (by simp [Tryz.f65]) (by rfl) ?_
  (conv => whnf)
  (split <;> rename_i h <;> (try simp only [decide_eq_true_eq, decide_eq_false_iff_not, Bool.not_eq_true', Bool.not_eq_false', Bool.not_eq_true, Bool.not_eq_false, List.length_map] at h) <;> conv => whnf)
  · refine ⟨by decide, by simp, by simp; omega, _, rfl, ?_⟩; (conv => whnf)
    exact ⟨close_bool (by simp [begins]; omega), trivial⟩
  · exact ⟨close_bool (by simp [begins]; omega), trivial⟩
theorem hasPrefix_c (s p : ByteArray) : Fun1 Tryz.prog 43 [.one (.lit (.string s)), .one (.lit (.string p))] (.one (.lit (.bool (begins s p)))) := by
  refine fun1_of_vc tb_ok mix (fn := Tryz.f43) Tryz.func43 rfl (by kernel_rfl) (by kernel_rfl) (by simp [Tryz.f43]) (by rfl) ?_
  (conv => whnf)
  refine ⟨_, _, hasPrefix2_c s p, (by repeat' (first | exact lends_nil | exact lend_dead | apply lends_cons | apply lend_agg | apply lend_one | exact all2_nil | apply all2_cons | exact la_lit rfl | exact la_int (by first | rfl | omega) | exact la_row rfl rfl | exact la_loc rfl rfl rfl (by first | rfl | simp [mkL_length]) (by first | rfl | simp) | exact la_nil rfl | apply la_fn rfl | exact lend_same rfl rfl | exact lend_bor rfl rfl)), ?_⟩; (conv => whnf)
  exact (by repeat' (first | exact trivial | exact close_int rfl | exact close_str rfl | exact close_bool rfl | exact close_int (by omega) | exact close_row rfl rfl (by first | rfl | simp) (by first | rfl | simp) | exact close_nil (by first | rfl | simp) | exact rfl | apply And.intro | apply closeTs_cons rfl))
theorem codeSpec_c (k m : Int) : Fun1 Tryz.prog 29 [.one (.lit (.int .i64 k)), .one (.lit (.int .i64 m))] (.one (.lit (.bool (codeOk k m)))) := by
  refine fun1_of_vc tb_ok mix (fn := Tryz.f29) Tryz.func29 rfl (by kernel_rfl) (by kernel_rfl) (by simp [Tryz.f29]) (by rfl) ?_
  (conv => whnf)
  (repeat' (split <;> rename_i hb <;> (try simp only [decide_eq_true_eq, decide_eq_false_iff_not, Bool.not_eq_true', Bool.not_eq_false', Bool.not_eq_true, Bool.not_eq_false, List.length_map] at hb) <;> conv => whnf))
  all_goals exact ⟨close_bool (by simp [codeOk, *]), trivial⟩
theorem codeImpl_c (k m : Int) : Fun1 Tryz.prog 36 [.one (.lit (.int .i64 k)), .one (.lit (.int .i64 m))] (.one (.lit (.bool (codeOk k m)))) := by
  refine fun1_of_vc tb_ok mix (fn := Tryz.f36) Tryz.func36 rfl (by kernel_rfl) (by kernel_rfl) (by simp [Tryz.f36]) (by rfl) ?_
  (conv => whnf)
  refine ⟨_, _, within_c k 1 8, (by repeat' (first | exact lends_nil | exact lend_dead | apply lends_cons | apply lend_agg | apply lend_one | exact all2_nil | apply all2_cons | exact la_lit rfl | exact la_int (by first | rfl | omega) | exact la_row rfl rfl | exact la_loc rfl rfl rfl (by first | rfl | simp [mkL_length]) (by first | rfl | simp) | exact la_nil rfl | apply la_fn rfl | exact lend_same rfl rfl | exact lend_bor rfl rfl)), ?_⟩; (conv => whnf)
  (split <;> rename_i h <;> (try simp only [decide_eq_true_eq, decide_eq_false_iff_not, Bool.not_eq_true', Bool.not_eq_false', Bool.not_eq_true, Bool.not_eq_false, List.length_map] at h) <;> conv => whnf)
  · refine ⟨_, _, within_c m 0 6, (by repeat' (first | exact lends_nil | exact lend_dead | apply lends_cons | apply lend_agg | apply lend_one | exact all2_nil | apply all2_cons | exact la_lit rfl | exact la_int (by first | rfl | omega) | exact la_row rfl rfl | exact la_loc rfl rfl rfl (by first | rfl | simp [mkL_length]) (by first | rfl | simp) | exact la_nil rfl | apply la_fn rfl | exact lend_same rfl rfl | exact lend_bor rfl rfl)), ?_⟩; (conv => whnf)
    exact ⟨close_bool (by simp at h; simp [codeOk, h]), trivial⟩
  · exact ⟨close_bool (by simp at h; simp [codeOk]; omega), trivial⟩
theorem arrayRight1_c (d : DDrive) (hx : d.ok) (hu : usedN d.files ≤ 1000000000000) : Fun1 Tryz.prog 39 [.agg d.enc] (.one (.lit (.bool (!driveOk d)))) := by
  refine fun1_of_vc tb_ok mix (fn := Tryz.f39) Tryz.func39 rfl (by kernel_rfl) (by kernel_rfl) (by simp [Tryz.f39]) (by rfl) ?_
  (conv => whnf)
  refine ⟨_, _, driveImpl_c d hx hu, (by repeat' (first | exact lends_nil | exact lend_dead | apply lends_cons | apply lend_agg | apply lend_one | exact all2_nil | apply all2_cons | exact la_lit rfl | exact la_int (by first | rfl | omega) | exact la_row rfl rfl | exact la_loc rfl rfl rfl (by first | rfl | simp [mkL_length]) (by first | rfl | simp) | exact la_nil rfl | apply la_fn rfl | exact lend_same rfl rfl | exact lend_bor rfl rfl)), ?_⟩; (conv => whnf)
  exact (by repeat' (first | exact trivial | exact close_int rfl | exact close_str rfl | exact close_bool rfl | exact close_int (by omega) | exact close_row rfl rfl (by first | rfl | simp) (by first | rfl | simp) | exact close_nil (by first | rfl | simp) | exact rfl | apply And.intro | apply closeTs_cons rfl))
theorem indexDrive_c (l : List DDrive) (g : FuncId) (p : DDrive → Bool) (hl : l.length ≤ 4294967296) (hg : ∀ d ∈ l, Fun1 Tryz.prog g [.agg d.enc] (.one (.lit (.bool (p d))))) :
    Fun1 Tryz.prog 61 [.one (.row true 2 (l.map DDrive.enc)), .one (.fn g [])] (.one (.lit (.int .i64 (match l.findIdx? p with | some i => (i : Int) | none => -1)))) := by
  refine fun1_of_vc tb_ok mix (fn := Tryz.f61) Tryz.func61 rfl (by kernel_rfl) (by kernel_rfl) (by simp [Tryz.f61]) (by rfl) ?_
  (conv => whnf)
  refine ⟨LG (fun i : Nat => i ≤ l.length ∧ ∀ j (h : j < l.length), j < i → p l[j] = false) (fun i => l.length - i) (fun i => AS.of [(0, .one (.row true 2 (l.map DDrive.enc))), (1, .one (.fn g [])), (7, .one (.lit (.int .i64 (l.length : Nat)))), (8, .one (.lit (.int .i64 (i : Nat))))] []), lg_init 0 ⟨by omega, fun j h h' => by omega⟩ (weak_of (by repeat (first | refine all_cons (by first | rfl | exact eq_int rfl (by first | rfl | omega | (simp; done) | (simp; omega)) | exact eq_loc rfl (by first | rfl | omega | (simp; done) | (simp; omega)) | exact eq_bool rfl (by simp_all)) ?_ | exact all_nil)) (by repeat (first | refine all_cons (by first | rfl | exact eq_int rfl (by first | rfl | omega | (simp; done) | (simp; omega)) | exact eq_loc rfl (by first | rfl | omega | (simp; done) | (simp; omega)) | exact eq_bool rfl (by simp_all)) ?_ | exact all_nil)) rfl rfl), ?_⟩
  rintro σ k ⟨i, ⟨hi, hc⟩, rfl, rfl⟩
  refine ⟨_, Weak.refl _, ?_⟩
  (conv => whnf)
  (split <;> rename_i h <;> (try simp only [decide_eq_true_eq, decide_eq_false_iff_not, Bool.not_eq_true', Bool.not_eq_false', Bool.not_eq_true, Bool.not_eq_false, List.length_map] at h) <;> conv => whnf)
  · have hlt : i < l.length := by omega
    refine ⟨i, rfl, _, at_map hlt, ?_⟩; (conv => whnf)
    refine ⟨_, _, hg l[i] (List.getElem_mem hlt), (by repeat' (first | exact lends_nil | exact lend_dead | apply lends_cons | apply lend_agg | apply lend_one | exact all2_nil | apply all2_cons | exact la_lit rfl | exact la_int (by first | rfl | omega) | exact la_row rfl rfl | exact la_loc rfl rfl rfl (by first | rfl | simp [mkL_length]) (by first | rfl | simp) | exact la_nil rfl | apply la_fn rfl | exact lend_same rfl rfl | exact lend_bor rfl rfl)), ?_⟩; (conv => whnf)
    (split <;> rename_i h2 <;> (try simp only [decide_eq_true_eq, decide_eq_false_iff_not, Bool.not_eq_true', Bool.not_eq_false', Bool.not_eq_true, Bool.not_eq_false, List.length_map] at h2) <;> conv => whnf)
    · have : l.findIdx? p = some i := by
        rw [List.findIdx?_eq_some_iff_getElem]
        exact ⟨hlt, h2, fun j hj => by have := hc j (by omega) hj; simp [this]⟩
      rw [this]
      exact (by repeat' (first | exact trivial | exact close_int rfl | exact close_str rfl | exact close_bool rfl | exact close_int (by omega) | exact close_row rfl rfl (by first | rfl | simp) (by first | rfl | simp) | exact close_nil (by first | rfl | simp) | exact rfl | apply And.intro | apply closeTs_cons rfl))
    · (refine ⟨((i + 1 : Nat) : Int), by rw [← wrap64_id] <;> omega, ?_⟩; conv => whnf)
      exact lg_back (i + 1) ⟨by omega, fun j hj hji => by
        by_cases e : j = i
        · subst e; exact h2
        · exact hc j hj (by omega)⟩ (by (try dsimp only); omega) (weak_of (by repeat (first | refine all_cons (by first | rfl | exact eq_int rfl (by first | rfl | omega | (simp; done) | (simp; omega)) | exact eq_loc rfl (by first | rfl | omega | (simp; done) | (simp; omega)) | exact eq_bool rfl (by simp_all)) ?_ | exact all_nil)) (by repeat (first | refine all_cons (by first | rfl | exact eq_int rfl (by first | rfl | omega | (simp; done) | (simp; omega)) | exact eq_loc rfl (by first | rfl | omega | (simp; done) | (simp; omega)) | exact eq_bool rfl (by simp_all)) ?_ | exact all_nil)) rfl rfl)
  · have : l.findIdx? p = none := by
      rw [List.findIdx?_eq_none_iff]
      intro x hx
      obtain ⟨j, hj, rfl⟩ := List.getElem_of_mem hx
      exact hc j hj (by omega)
    rw [this]
    exact (by repeat' (first | exact trivial | exact close_int rfl | exact close_str rfl | exact close_bool rfl | exact close_int (by omega) | exact close_row rfl rfl (by first | rfl | simp) (by first | rfl | simp) | exact close_nil (by first | rfl | simp) | exact rfl | apply And.intro | apply closeTs_cons rfl))
theorem containsDrive_c (l : List DDrive) (g : FuncId) (p : DDrive → Bool) (hl : l.length ≤ 4294967296) (hg : ∀ d ∈ l, Fun1 Tryz.prog g [.agg d.enc] (.one (.lit (.bool (p d))))) :
    Fun1 Tryz.prog 38 [.one (.row true 2 (l.map DDrive.enc)), .one (.fn g [])] (.one (.lit (.bool (l.any p)))) := by
  refine fun1_of_vc tb_ok mix (fn := Tryz.f38) Tryz.func38 rfl (by kernel_rfl) (by kernel_rfl) (by simp [Tryz.f38]) (by rfl) ?_
  (conv => whnf)
  refine ⟨_, _, indexDrive_c l g p hl hg, (by repeat' (first | exact lends_nil | exact lend_dead | apply lends_cons | apply lend_agg | apply lend_one | exact all2_nil | apply all2_cons | exact la_lit rfl | exact la_int (by first | rfl | omega) | exact la_row rfl rfl | exact la_loc rfl rfl rfl (by first | rfl | simp [mkL_length]) (by first | rfl | simp) | exact la_nil rfl | apply la_fn rfl | exact lend_same rfl rfl | exact lend_bor rfl rfl)), ?_⟩; (conv => whnf)
  cases hq : l.findIdx? p with
  | some i =>
    have : l.any p = true := by
      rw [List.findIdx?_eq_some_iff_getElem] at hq
      obtain ⟨h1, h2, _⟩ := hq
      exact List.any_eq_true.2 ⟨_, List.getElem_mem h1, h2⟩
    rw [this]
    exact ⟨close_bool (by simp), trivial⟩
  | none =>
    have : l.any p = false := by
      rw [List.findIdx?_eq_none_iff] at hq
      rw [List.any_eq_false]; exact fun x hx => by simp [hq x hx]
    rw [this]
    exact ⟨close_bool (by simp), trivial⟩
theorem sizeDrive_c (l : List DDrive) : Fun1 Tryz.prog 37 [.one (.row true 2 (l.map DDrive.enc))] (.one (.lit (.int .i64 (l.length : Nat)))) := by
  refine fun1_of_vc tb_ok mix (fn := Tryz.f37) Tryz.func37 rfl (by kernel_rfl) (by kernel_rfl) (by simp [Tryz.f37]) (by rfl) ?_
  (conv => whnf)
  exact ⟨close_int (by simp), trivial⟩
theorem any_not {l : List DDrive} : (!l.any fun d => !driveOk d) = l.all driveOk := by
  induction l with
  | nil => rfl
  | cons x l ih => simp only [List.any_cons, List.all_cons, Bool.not_or, Bool.not_not, ih]
theorem arrayImpl_c (x : DArray) (hx : x.ok) (hu : ∀ d ∈ x.drives, usedN d.files ≤ 1000000000000) : Fun1 Tryz.prog 20 [.agg x.enc] (.one (.lit (.bool (arrayOk x)))) := by
  obtain ⟨hk, hm, hl, hd⟩ := hx
  unfold inI at hk hm
  refine fun1_of_vc tb_ok mix (fn := Tryz.f20) Tryz.func20 rfl (by kernel_rfl) (by kernel_rfl) (by simp [Tryz.f20]) (by rfl) ?_
  (conv => whnf)
  refine ⟨_, _, codeImpl_c x.k x.m, (by repeat' (first | exact lends_nil | exact lend_dead | apply lends_cons | apply lend_agg | apply lend_one | exact all2_nil | apply all2_cons | exact la_lit rfl | exact la_int (by first | rfl | omega) | exact la_row rfl rfl | exact la_loc rfl rfl rfl (by first | rfl | simp [mkL_length]) (by first | rfl | simp) | exact la_nil rfl | apply la_fn rfl | exact lend_same rfl rfl | exact lend_bor rfl rfl)), ?_⟩; (conv => whnf)
  (split <;> rename_i h <;> (try simp only [decide_eq_true_eq, decide_eq_false_iff_not, Bool.not_eq_true', Bool.not_eq_false', Bool.not_eq_true, Bool.not_eq_false, List.length_map] at h) <;> conv => whnf)
  · have hko : 1 ≤ x.k ∧ x.k ≤ 8 ∧ 0 ≤ x.m ∧ x.m ≤ 6 := by simp only [codeOk, Bool.and_eq_true, decide_eq_true_eq] at h; omega
    refine ⟨_, _, sizeDrive_c x.drives, (by repeat' (first | exact lends_nil | exact lend_dead | apply lends_cons | apply lend_agg | apply lend_one | exact all2_nil | apply all2_cons | exact la_lit rfl | exact la_int (by first | rfl | omega) | exact la_row rfl rfl | exact la_loc rfl rfl rfl (by first | rfl | simp [mkL_length]) (by first | rfl | simp) | exact la_nil rfl | apply la_fn rfl | exact lend_same rfl rfl | exact lend_bor rfl rfl)), ?_⟩; (conv => whnf)
    refine ⟨x.k + x.m, wrap64_id (by omega) (by omega), ?_⟩; (conv => whnf)
    (split <;> rename_i h2 <;> (try simp only [decide_eq_true_eq, decide_eq_false_iff_not, Bool.not_eq_true', Bool.not_eq_false', Bool.not_eq_true, Bool.not_eq_false, List.length_map] at h2) <;> conv => whnf)
    · refine ⟨_, _, containsDrive_c x.drives 39 (fun d => !driveOk d) hl (fun d hm => arrayRight1_c d (hd d hm) (hu d hm)), (by repeat' (first | exact lends_nil | exact lend_dead | apply lends_cons | apply lend_agg | apply lend_one | exact all2_nil | apply all2_cons | exact la_lit rfl | exact la_int (by first | rfl | omega) | exact la_row rfl rfl | exact la_loc rfl rfl rfl (by first | rfl | simp [mkL_length]) (by first | rfl | simp) | exact la_nil rfl | apply la_fn rfl | exact lend_same rfl rfl | exact lend_bor rfl rfl)), ?_⟩; (conv => whnf)
      exact ⟨close_bool (by simp only [arrayOk, h, h2, decide_true, Bool.true_and, any_not]), trivial⟩
    · exact ⟨close_bool (by simp [arrayOk, h2]), trivial⟩
  · exact ⟨close_bool (by simp [arrayOk, h]), trivial⟩
theorem arraySpec_c (x : DArray) (hx : x.ok) (hu : ∀ d ∈ x.drives, usedN d.files ≤ 1000000000000) : Fun1 Tryz.prog 14 [.agg x.enc] (.one (.lit (.bool (arrayOk x)))) := by
  obtain ⟨hk, hm, hl, hd⟩ := hx
  unfold inI at hk hm
  refine fun1_of_vc tb_ok mix (fn := Tryz.f14) Tryz.func14 rfl (by kernel_rfl) (by kernel_rfl) (by simp [Tryz.f14]) (by rfl) ?_
  (conv => whnf)
  refine ⟨_, _, codeSpec_c x.k x.m, (by repeat' (first | exact lends_nil | exact lend_dead | apply lends_cons | apply lend_agg | apply lend_one | exact all2_nil | apply all2_cons | exact la_lit rfl | exact la_int (by first | rfl | omega) | exact la_row rfl rfl | exact la_loc rfl rfl rfl (by first | rfl | simp [mkL_length]) (by first | rfl | simp) | exact la_nil rfl | apply la_fn rfl | exact lend_same rfl rfl | exact lend_bor rfl rfl)), ?_⟩; (conv => whnf)
  (split <;> rename_i h <;> (try simp only [decide_eq_true_eq, decide_eq_false_iff_not, Bool.not_eq_true', Bool.not_eq_false', Bool.not_eq_true, Bool.not_eq_false, List.length_map] at h) <;> conv => whnf)
  · exact ⟨close_bool (by simp [arrayOk, h]), trivial⟩
  have hko : 1 ≤ x.k ∧ x.k ≤ 8 ∧ 0 ≤ x.m ∧ x.m ≤ 6 := by simp only [codeOk, Bool.and_eq_true, decide_eq_true_eq] at h; omega
  refine ⟨x.k + x.m, wrap64_id (by omega) (by omega), ?_⟩; (conv => whnf)
  (split <;> rename_i h2 <;> (try simp only [decide_eq_true_eq, decide_eq_false_iff_not, Bool.not_eq_true', Bool.not_eq_false', Bool.not_eq_true, Bool.not_eq_false, List.length_map] at h2) <;> conv => whnf)
  · exact ⟨close_bool (by simp [arrayOk, h2]), trivial⟩
  have h2' : (x.drives.length : Int) = x.k + x.m := by first | exact h2 | simpa using h2
  refine ⟨LG (fun i : Nat => i ≤ x.drives.length ∧ ∀ j (h : j < x.drives.length), j < i → driveOk x.drives[j] = true) (fun i => x.drives.length - i) (fun i => AS.of [(1, .one (.ptr 16 0)), (3, .one (.lit (.int .i64 (i : Nat))))] [(16, .var x.enc)]), lg_init 0 ⟨by omega, fun j h h' => by omega⟩ (weak_of (by repeat (first | refine all_cons (by first | rfl | exact eq_int rfl (by first | rfl | omega | (simp; done) | (simp; omega)) | exact eq_loc rfl (by first | rfl | omega | (simp; done) | (simp; omega)) | exact eq_bool rfl (by simp_all)) ?_ | exact all_nil)) (by repeat (first | refine all_cons (by first | rfl | exact eq_int rfl (by first | rfl | omega | (simp; done) | (simp; omega)) | exact eq_loc rfl (by first | rfl | omega | (simp; done) | (simp; omega)) | exact eq_bool rfl (by simp_all)) ?_ | exact all_nil)) rfl rfl), ?_⟩
  rintro σ k ⟨i, ⟨hi, hc⟩, rfl, rfl⟩
  refine ⟨_, Weak.refl _, ?_⟩
  (conv => whnf)
  (split <;> rename_i h3 <;> (try simp only [decide_eq_true_eq, decide_eq_false_iff_not, Bool.not_eq_true', Bool.not_eq_false', Bool.not_eq_true, Bool.not_eq_false, List.length_map] at h3) <;> conv => whnf)
  · have hlt : i < x.drives.length := by omega
    refine ⟨i, rfl, _, at_map hlt, ?_⟩; (conv => whnf)
    refine ⟨_, _, driveSpec_c x.drives[i] (hd _ (List.getElem_mem hlt)) (hu _ (List.getElem_mem hlt)), (by repeat' (first | exact lends_nil | exact lend_dead | apply lends_cons | apply lend_agg | apply lend_one | exact all2_nil | apply all2_cons | exact la_lit rfl | exact la_int (by first | rfl | omega) | exact la_row rfl rfl | exact la_loc rfl rfl rfl (by first | rfl | simp [mkL_length]) (by first | rfl | simp) | exact la_nil rfl | apply la_fn rfl | exact lend_same rfl rfl | exact lend_bor rfl rfl)), ?_⟩; (conv => whnf)
    (split <;> rename_i h4 <;> (try simp only [decide_eq_true_eq, decide_eq_false_iff_not, Bool.not_eq_true', Bool.not_eq_false', Bool.not_eq_true, Bool.not_eq_false, List.length_map] at h4) <;> conv => whnf)
    · exact ⟨close_bool (by
        have : x.drives.all driveOk = false := by rw [List.all_eq_false]; exact ⟨_, List.getElem_mem hlt, by simp [h4]⟩
        simp [arrayOk, this]), trivial⟩
    · (refine ⟨((i + 1 : Nat) : Int), by rw [← wrap64_id] <;> omega, ?_⟩; conv => whnf)
      exact lg_back (i + 1) ⟨by omega, fun j hj hji => by
        by_cases e : j = i
        · subst e; exact h4
        · exact hc j hj (by omega)⟩ (by (try dsimp only); omega) (weak_of (by repeat (first | refine all_cons (by first | rfl | exact eq_int rfl (by first | rfl | omega | (simp; done) | (simp; omega)) | exact eq_loc rfl (by first | rfl | omega | (simp; done) | (simp; omega)) | exact eq_bool rfl (by simp_all)) ?_ | exact all_nil)) (by repeat (first | refine all_cons (by first | rfl | exact eq_int rfl (by first | rfl | omega | (simp; done) | (simp; omega)) | exact eq_loc rfl (by first | rfl | omega | (simp; done) | (simp; omega)) | exact eq_bool rfl (by simp_all)) ?_ | exact all_nil)) rfl rfl)
  · exact ⟨close_bool (by
      have : x.drives.all driveOk = true := by
        rw [List.all_eq_true]; intro d hd
        obtain ⟨j, hj, rfl⟩ := List.getElem_of_mem hd
        exact hc j hj (by omega)
      simp [arrayOk, this, h, h2']), trivial⟩
end Go.Proofs.YtdbnppipgblajaaGreatDoor
namespace Go.Proofs.YtdbnppipgblajaaGreatDoor
open Go.RowKit
set_option linter.unusedSimpArgs false
set_option linter.unusedVariables false
set_option maxRecDepth 100000
set_option maxHeartbeats 4000000
theorem sizeRows_c (es : List (List AV)) : Fun1 Tryz.prog 112 [.one (.row true 1 es)] (.one (vN es.length)) := by
  refine fun1_of_vc tb_ok mix (fn := Tryz.f112) Tryz.func112 rfl (by kernel_rfl) (by kernel_rfl) (by simp [Tryz.f112]) (by rfl) ?_
  (conv => whnf)
  exact ⟨close_int rfl, trivial⟩
theorem sizeInts_c (es : List (List AV)) : Fun1 Tryz.prog 113 [.one (.row true 1 es)] (.one (vN es.length)) := by
  refine fun1_of_vc tb_ok mix (fn := Tryz.f113) Tryz.func113 rfl (by kernel_rfl) (by kernel_rfl) (by simp [Tryz.f113]) (by rfl) ?_
  (conv => whnf)
  exact ⟨close_int rfl, trivial⟩
theorem unitImpl_c {i n : Nat} (h : i < n) (hn : n ≤ 1000000) : Fun1 Tryz.prog 93 [.one (vN i), .one (vN n)] (.one (.row true 1 ((unitR i n).map eNat))) := by
  refine fun1_of_vc tb_ok mix (fn := Tryz.f93) Tryz.func93 rfl (by kernel_rfl) (by kernel_rfl) (by simp [Tryz.f93]) (by show AV.nb (4 + 1) _ = true; exact nb_map (n := 4) (fun y => rfl) _) ?_
  (conv => whnf)
  refine ⟨n, rfl, Int.le_refl _, by omega, by simp [maxLen]; omega, ?_⟩; (conv => whnf)
  refine ⟨i, rfl, h, ?_⟩; (conv => whnf)
  refine ⟨[.lit (.int .i64 0)], by rw [Nat.zero_add, List.getElem?_replicate, if_pos h]; rfl, ?_⟩; (conv => whnf)
  refine ⟨_, rfl, ?_⟩; (conv => whnf)
  exact ⟨close_row rfl rfl (by simp) (by simp [unitR, List.map_set, eNat, AV.bor]), trivial⟩
theorem matE_nb {r c : Nat} {cs : List Nat} : (T.agg (matE r c cs)).nb = true := by
  have : AV.nb (4 + 1) (.row true 1 (cs.map eNat)) = true := nb_map (n := 4) (fun y => rfl) _
  simp only [T.nb, matE, List.all_cons, List.all_nil, this]; rfl
theorem matrixOf_c (rs : List (List Nat)) (r0 : List Nat) (h0 : rs[0]? = some r0) (h1 : rs.length ≤ 4294967296) (h2 : rs.flatten.length ≤ 4294967296) : Fun1 Tryz.prog 95 [.one (.row true 1 (rs.map rN))] (.agg (matE rs.length r0.length rs.flatten)) := by
  refine fun1_of_vc tb_ok mix (fn := Tryz.f95) Tryz.func95 rfl (by kernel_rfl) (by kernel_rfl) (by simp [Tryz.f95]) (by exact matE_nb) ?_
  (conv => whnf)
  refine ⟨_, _, sizeRows_c (rs.map rN), (by repeat' (first | exact lends_nil | exact lend_dead | apply lends_cons | apply lend_agg | apply lend_one | exact all2_nil | apply all2_cons | exact la_lit rfl | exact la_int (by first | rfl | omega) | exact la_row rfl rfl | exact la_loc rfl rfl rfl (by first | rfl | simp [mkL_length]) (by first | rfl | simp) | exact la_nil rfl | apply la_fn rfl | exact lend_same rfl rfl | exact lend_bor rfl rfl)), ?_⟩; (conv => whnf)
  refine ⟨0, rfl, rN r0, by rw [List.getElem?_map, h0]; rfl, ?_⟩; (conv => whnf)
  refine ⟨_, _, sizeInts_c (r0.map eNat), (by repeat' (first | exact lends_nil | exact lend_dead | apply lends_cons | apply lend_agg | apply lend_one | exact all2_nil | apply all2_cons | exact la_lit rfl | exact la_int (by first | rfl | omega) | exact la_row rfl rfl | exact la_loc rfl rfl rfl (by first | rfl | simp [mkL_length]) (by first | rfl | simp) | exact la_nil rfl | apply la_fn rfl | exact lend_same rfl rfl | exact lend_bor rfl rfl)), ?_⟩; (conv => whnf)
  refine ⟨_, _, concat_c rs h1 h2, (by repeat' (first | exact lends_nil | exact lend_dead | apply lends_cons | apply lend_agg | apply lend_one | exact all2_nil | apply all2_cons | exact la_lit rfl | exact la_int (by first | rfl | omega) | exact la_row rfl rfl | exact la_loc rfl rfl rfl (by first | rfl | simp [mkL_length]) (by first | rfl | simp) | exact la_nil rfl | apply la_fn rfl | exact lend_same rfl rfl | exact lend_bor rfl rfl)), ?_⟩; (conv => whnf)
  exact ⟨close_int (by simp), close_int (by simp), close_row rfl rfl rfl rfl, trivial⟩
theorem codeN {k m : Nat} (hk : 1 ≤ k ∧ k ≤ 8) (hm : m ≤ 6) : codeOk (k : Int) (m : Int) = true := by simp [codeOk]; omega
theorem range_succ_map {α : Type} (f : Nat → α) (i : Nat) : (List.range (i + 1)).map f = (List.range i).map f ++ [f i] := by rw [List.range_succ, List.map_append]; rfl
theorem xor16 {a b : Nat} (ha : a < 16) (hb : b < 16) : a ^^^ b < 16 := Nat.xor_lt_two_pow (n := 4) ha hb
theorem cauchyImpl_c {k m : Nat} (hk : 1 ≤ k ∧ k ≤ 8) (hm : m ≤ 6) : Fun1 Tryz.prog 69 [.one (vN k), .one (vN m)] (.agg (matE (k + m) k (cauchyN k m).flatten)) := by
  have hrow : (cauchyN k m)[0]? = some (unitR 0 k) := by
    unfold cauchyN
    rw [List.getElem?_append_left (by simp; omega), List.getElem?_map, List.getElem?_range (by omega)]; rfl
  have hfl : (cauchyN k m).flatten.length = (k + m) * k := by rw [flat_len' (fun x hx => cauchyN_row x hx), cauchyN_len]
  have hfb : (k + m) * k ≤ 14 * 8 := Nat.mul_le_mul (by omega) (by omega)
  have hcM := matrixOf_c (cauchyN k m) (unitR 0 k) hrow (by rw [cauchyN_len]; omega) (by rw [hfl]; omega)
  rw [cauchyN_len, unitR_len] at hcM
  refine fun1_of_vc tb_ok mix (fn := Tryz.f69) Tryz.func69 rfl (by kernel_rfl) (by kernel_rfl) (by simp [Tryz.f69]) (by exact matE_nb) ?_
  (conv => whnf)
  refine ⟨LG (fun i : Nat => i ≤ k) (fun i => k - i) (fun i => AS.of [(0, .one (vN k)), (1, .one (vN m)), (4, .one (.ptr 64 0)), (5, .one (.loc 304 0 i)), (10, .one (vN k)), (11, .one (vN i))] [(64, .var [.lit (.int .i64 0), .lit (.int .i64 0), .lit (.slice none 0 0)]), (304, .row true 1 (((List.range i).map fun j => unitR j k).map rN))]),
    lg_init 0 (by omega) (weak_nil 5 304 1 rfl rfl (weak_of (by repeat (first | refine all_cons (by first | rfl | exact eq_int rfl (by first | rfl | omega | (simp; done) | (simp; omega)) | exact eq_loc rfl (by first | rfl | omega | (simp; done) | (simp; omega)) | exact eq_bool rfl (by simp_all)) ?_ | exact all_nil)) (by repeat (first | refine all_cons (by first | rfl | exact eq_int rfl (by first | rfl | omega | (simp; done) | (simp; omega)) | exact eq_loc rfl (by first | rfl | omega | (simp; done) | (simp; omega)) | exact eq_bool rfl (by simp_all)) ?_ | exact all_nil)) rfl rfl)), ?_⟩
  rintro σ j ⟨i, hi, rfl, rfl⟩
  refine ⟨_, Weak.refl _, ?_⟩
  (conv => whnf)
  (split <;> rename_i h <;> (try simp only [decide_eq_true_eq, decide_eq_false_iff_not, Bool.not_eq_true', Bool.not_eq_false', Bool.not_eq_true, Bool.not_eq_false, List.length_map] at h) <;> conv => whnf)
  · have hlt : i < k := by omega
    have hs := range_succ_map (fun j => unitR j k) i
    refine ⟨_, _, unitImpl_c hlt (by omega), (by repeat' (first | exact lends_nil | exact lend_dead | apply lends_cons | apply lend_agg | apply lend_one | exact all2_nil | apply all2_cons | exact la_lit rfl | exact la_int (by first | rfl | omega) | exact la_row rfl rfl | exact la_loc rfl rfl rfl (by first | rfl | simp [mkL_length]) (by first | rfl | simp) | exact la_nil rfl | apply la_fn rfl | exact lend_same rfl rfl | exact lend_bor rfl rfl)), ?_⟩; (conv => whnf)
    refine ⟨_, _, ⟨rfl, Nat.le_refl _, rfl, rfl⟩, ?_⟩; (conv => whnf)
    refine ⟨_, rfl, rfl, by simp, rfl, by simp [maxLen, chunk]; omega, by simp [chunk]; omega, ?_⟩; (conv => whnf)
    (refine ⟨((i + 1 : Nat) : Int), by rw [← wrap64_id] <;> omega, ?_⟩; conv => whnf)
    exact lg_back (i + 1) (by omega) (by (try dsimp only); omega) (weak_absorb 304 272 (((List.range i).map fun j => unitR j k).map rN) [] [] [] (es2 := (unitR i k).map eNat) (by decide) rfl rfl (cellRow_map (fun _ => rfl) _) rfl rfl rfl
      (weak_of (all_cons rfl (all_cons rfl (all_cons rfl (all_cons (eq_loc rfl (by simp [chunk])) (all_cons rfl (all_cons rfl all_nil)))))) (all_cons rfl (all_cons (eq_row rfl (by rw [hs, List.map_append]; rfl)) all_nil)) rfl rfl))
  · have : i = k := by omega
    subst this
    refine ⟨LG (fun q : Nat => q ≤ m) (fun q => m - q) (fun q => AS.of [(0, .one (vN i)), (4, .one (.ptr 64 0)), (5, .one (.loc 304 0 (i + q))), (21, .one (vN m)), (22, .one (vN q))] [(64, .var [.lit (.int .i64 0), .lit (.int .i64 0), .lit (.slice none 0 0)]), (304, .row true 1 ((cauchyN i q).map rN))]),
      lg_init 0 (by omega) (weak_of (by repeat (first | refine all_cons (by first | rfl | exact eq_int rfl (by first | rfl | omega | (simp; done) | (simp; omega)) | exact eq_loc rfl (by first | rfl | omega | (simp; done) | (simp; omega)) | exact eq_bool rfl (by simp_all)) ?_ | exact all_nil)) (all_cons rfl (all_cons (eq_row rfl (by simp [cauchyN])) all_nil)) rfl rfl), ?_⟩
    rintro σ j ⟨q, hq, rfl, rfl⟩
    refine ⟨_, Weak.refl _, ?_⟩
    (conv => whnf)
    (split <;> rename_i h2 <;> (try simp only [decide_eq_true_eq, decide_eq_false_iff_not, Bool.not_eq_true', Bool.not_eq_false', Bool.not_eq_true, Bool.not_eq_false, List.length_map] at h2) <;> conv => whnf)
    · have hlq : q < m := by omega
      have hs : cauchyN i (q + 1) = cauchyN i q ++ [parR i q] := by unfold cauchyN; rw [range_succ_map, List.append_assoc]
      have hln := cauchyN_len i q
      refine ⟨LG (fun z : Nat => z ≤ i) (fun z => i - z) (fun z => AS.of [(0, .one (vN i)), (4, .one (.ptr 64 0)), (5, .one (.loc 304 0 (i + q))), (7, .one (vN q)), (8, .one (.loc 592 0 z)), (21, .one (vN m)), (22, .one (vN q)), (25, .one (vN i)), (26, .one (vN z))] [(64, .var [.lit (.int .i64 0), .lit (.int .i64 0), .lit (.slice none 0 0)]), (304, .row true 1 ((cauchyN i q).map rN)), (592, .row true 1 (((List.range z).map fun j => invN ((i + q) ^^^ j)).map eNat))]),
        lg_init 0 (by omega) (weak_nil 8 592 1 rfl rfl (weak_of (by repeat (first | refine all_cons (by first | rfl | exact eq_int rfl (by first | rfl | omega | (simp; done) | (simp; omega)) | exact eq_loc rfl (by first | rfl | omega | (simp; done) | (simp; omega)) | exact eq_bool rfl (by simp_all)) ?_ | exact all_nil)) (by repeat (first | refine all_cons (by first | rfl | exact eq_int rfl (by first | rfl | omega | (simp; done) | (simp; omega)) | exact eq_loc rfl (by first | rfl | omega | (simp; done) | (simp; omega)) | exact eq_bool rfl (by simp_all)) ?_ | exact all_nil)) rfl rfl)), ?_⟩
      rintro σ j ⟨z, hz, rfl, rfl⟩
      refine ⟨_, Weak.refl _, ?_⟩
      (conv => whnf)
      (split <;> rename_i h3 <;> (try simp only [decide_eq_true_eq, decide_eq_false_iff_not, Bool.not_eq_true', Bool.not_eq_false', Bool.not_eq_true, Bool.not_eq_false, List.length_map] at h3) <;> conv => whnf)
      · have hlz : z < i := by omega
        have hs2 := range_succ_map (fun j => invN ((i + q) ^^^ j)) z
        have hx : (i + q) ^^^ z < 16 := xor16 (by omega) (by omega)
        refine ⟨((i + q : Nat) : Int), by rw [← wrap64_id] <;> omega, ?_⟩; (conv => whnf)
        have hxx : bits .xor .i64 ((i + q : Nat) : Int) (z : Int) = (((i + q) ^^^ z : Nat) : Int) := xorN (by (try dsimp only); omega) (by (try dsimp only); omega)
        rw [hxx]
        refine ⟨_, _, invImpl_c (a := (i + q) ^^^ z) (by omega), (by repeat' (first | exact lends_nil | exact lend_dead | apply lends_cons | apply lend_agg | apply lend_one | exact all2_nil | apply all2_cons | exact la_lit rfl | exact la_int (by first | rfl | omega) | exact la_row rfl rfl | exact la_loc rfl rfl rfl (by first | rfl | simp [mkL_length]) (by first | rfl | simp) | exact la_nil rfl | apply la_fn rfl | exact lend_same rfl rfl | exact lend_bor rfl rfl)), ?_⟩; (conv => whnf)
        refine ⟨true, [eNat (invN ((i + q) ^^^ z))], ⟨rfl, by simp [chunk], rfl, rfl⟩, ?_⟩; (conv => whnf)
        refine ⟨_, laid_map (f := eNat) (fun _ => rfl) [invN ((i + q) ^^^ z)], rfl, by simp, rfl, by simp [maxLen] <;> omega, by simp <;> omega, ?_⟩; (conv => whnf)
        refine ⟨((z + 1 : Nat) : Int), by rw [← wrap64_id] <;> omega, ?_⟩; (conv => whnf)
        exact lg_back (z + 1) (by omega) (by (try dsimp only); omega) (weak_of (all_cons rfl (all_cons rfl (all_cons rfl (all_cons rfl (all_cons (eq_loc rfl (by simp)) (all_cons rfl (all_cons rfl (all_cons rfl (all_cons rfl all_nil))))))))) (all_cons rfl (all_cons rfl (all_cons (eq_row rfl (by rw [hs2, List.map_append])) all_nil))) rfl rfl)
      · have : z = i := by omega
        subst this
        refine ⟨_, _, ⟨rfl, Nat.le_refl _, rfl, rfl⟩, ?_⟩; (conv => whnf)
        refine ⟨_, rfl, rfl, by simp [hln], rfl, by simp [maxLen, chunk]; omega, by simp [chunk]; omega, ?_⟩; (conv => whnf)
        refine ⟨((q + 1 : Nat) : Int), by rw [← wrap64_id] <;> omega, ?_⟩; (conv => whnf)
        exact lg_back (q + 1) (by omega) (by (try dsimp only); omega) (weak_absorb 304 592 ((cauchyN z q).map rN) [] [] [] (es2 := (parR z q).map eNat) (by decide) (eq_row rfl (by simp [chunk, parR, AV.bor, AV.kill, laid, AV.isData])) rfl (cellRow_map (fun _ => rfl) _) rfl rfl rfl
          (weak_of (all_cons rfl (all_cons rfl (all_cons (eq_loc rfl (by simp [chunk, hln]; omega)) (all_cons rfl (all_cons rfl all_nil))))) (all_cons rfl (all_cons (eq_row rfl (by rw [hs, List.map_append]; rfl)) all_nil)) rfl rfl))
    · have : q = m := by omega
      subst this
      refine ⟨_, _, hcM, (by repeat' (first | exact lends_nil | exact lend_dead | apply lends_cons | apply lend_agg | apply lend_one | exact all2_nil | apply all2_cons | exact la_lit rfl | exact la_int (by first | rfl | omega) | exact la_row rfl rfl | exact la_loc rfl rfl rfl (by first | rfl | simp [mkL_length]) (by first | rfl | simp) | exact la_nil rfl | apply la_fn rfl | exact lend_same rfl rfl | exact lend_bor rfl rfl)), ?_⟩; (conv => whnf)
      exact ⟨close_int rfl, close_int rfl, close_row rfl rfl rfl rfl, trivial⟩
end Go.Proofs.YtdbnppipgblajaaGreatDoor
namespace Go.Proofs.YtdbnppipgblajaaGreatDoor
open Go.RowKit
set_option linter.unusedSimpArgs false
set_option linter.unusedVariables false
set_option maxRecDepth 100000
set_option maxHeartbeats 4000000
theorem unit3_c {n : Nat} (hn : n ≤ 16) : Fun1 Tryz.prog 78 [.one (vN n)] (.agg (matE n n ((List.range n).map fun j => unitR j n).flatten)) := by
  have hnn : n * n ≤ 16 * 16 := Nat.mul_le_mul hn hn
  refine fun1_of_vc tb_ok mix (fn := Tryz.f78) Tryz.func78 rfl (by kernel_rfl) (by kernel_rfl) (by simp [Tryz.f78]) (by exact matE_nb) ?_
  (conv => whnf)
  refine ⟨((n * n : Nat) : Int), by rw [← wrap64_id] <;> omega, ?_⟩; (conv => whnf)
  refine ⟨n * n, rfl, Int.le_refl _, by omega, by simp [maxLen]; omega, ?_⟩; (conv => whnf)
  refine ⟨LG (fun i : Nat => i ≤ n) (fun i => n - i) (fun i => AS.of [(0, .one (vN n)), (2, .one (.ptr 32 0)), (3, .one (.ptr 48 0)), (4, .one (vN i))] [(32, .var [.lit (.int .i64 0), .lit (.int .i64 0), .lit (.slice none 0 0)]), (48, .var [vN n, vN n, .loc 160 0 (n * n)]), (160, .row true 1 ((unitZ n i).map eNat))]),
    lg_init 0 (by omega) (weak_of (by repeat (first | refine all_cons (by first | rfl | exact eq_int rfl (by first | rfl | omega | (simp; done) | (simp; omega)) | exact eq_loc rfl (by first | rfl | omega | (simp; done) | (simp; omega)) | exact eq_bool rfl (by simp_all)) ?_ | exact all_nil)) (all_cons rfl (all_cons rfl (all_cons (eq_row rfl (by simp [unitZ, eNat])) all_nil))) rfl rfl), ?_⟩
  rintro σ j ⟨i, hi, rfl, rfl⟩
  have hzl := unitZ_len hi
  refine ⟨_, Weak.refl _, ?_⟩
  (conv => whnf)
  (split <;> rename_i h <;> (try simp only [decide_eq_true_eq, decide_eq_false_iff_not, Bool.not_eq_true', Bool.not_eq_false', Bool.not_eq_true, Bool.not_eq_false, List.length_map] at h) <;> conv => whnf)
  · have hlt : i < n := by omega
    have hin : i * n + i < n * n := by
      have : (i + 1) * n ≤ n * n := Nat.mul_le_mul_right _ hlt
      rw [Nat.add_mul] at this; omega
    refine ⟨((i * n : Nat) : Int), by rw [← wrap64_id] <;> omega, ?_⟩; (conv => whnf)
    refine ⟨((i * n + i : Nat) : Int), by rw [← wrap64_id] <;> omega, ?_⟩; (conv => whnf)
    refine ⟨i * n + i, rfl, hin, ?_⟩; (conv => whnf)
    refine ⟨_, at_map0 (by rw [hzl]; exact hin), ?_⟩; (conv => whnf)
    refine ⟨_, rfl, ?_⟩; (conv => whnf)
    (refine ⟨((i + 1 : Nat) : Int), by rw [← wrap64_id] <;> omega, ?_⟩; conv => whnf)
    exact lg_back (i + 1) (by omega) (by (try dsimp only); omega) (weak_of (by repeat (first | refine all_cons (by first | rfl | exact eq_int rfl (by first | rfl | omega | (simp; done) | (simp; omega)) | exact eq_loc rfl (by first | rfl | omega | (simp; done) | (simp; omega)) | exact eq_bool rfl (by simp_all)) ?_ | exact all_nil)) (all_cons rfl (all_cons rfl (all_cons (eq_row rfl (by rw [← unitZ_set hlt, List.map_set, Nat.zero_add]; rfl)) all_nil))) rfl rfl)
  · have : i = n := by omega
    subst this
    exact ⟨close_int rfl, close_int rfl, close_row rfl rfl (by simp [hzl]) (by rw [unitZ_end]), trivial⟩
theorem matE_nb1 {r c : Nat} {cs : List Nat} {n : Int} : (T.agg (matE r c cs ++ [.lit (.int .i64 n)])).nb = true := by
  have : AV.nb (4 + 1) (.row true 1 (cs.map eNat)) = true := nb_map (n := 4) (fun y => rfl) _
  simp only [T.nb, matE, List.cons_append, List.nil_append, List.all_cons, List.all_nil, this]; rfl
theorem cauchySpec_c {k m : Nat} (hk : 1 ≤ k ∧ k ≤ 8) (hm : m ≤ 6) : Fun1 Tryz.prog 55 [.one (vN k), .one (vN m)] (.agg (matE (k + m) k (cauchyN k m).flatten ++ [.lit (.int .i64 0)])) := by
  have hfl : ∀ q, (cauchyN k q).flatten.length = (k + q) * k := fun q => by rw [flat_len' (fun x hx => cauchyN_row x hx), cauchyN_len]
  have hfb : ∀ q, q ≤ m → (k + q) * k ≤ 14 * 8 := fun q hq => Nat.mul_le_mul (by omega) (by omega)
  have hun : ((((List.range k).map fun j => unitR j k).flatten).map eNat).length = k * k := by rw [List.length_map, units_len]
  refine fun1_of_vc tb_ok mix (fn := Tryz.f55) Tryz.func55 rfl (by kernel_rfl) (by kernel_rfl) (by simp [Tryz.f55]) (by exact matE_nb1) ?_
  (conv => whnf)
  refine ⟨_, _, codeSpec_c k m, (by repeat' (first | exact lends_nil | exact lend_dead | apply lends_cons | apply lend_agg | apply lend_one | exact all2_nil | apply all2_cons | exact la_lit rfl | exact la_int (by first | rfl | omega) | exact la_row rfl rfl | exact la_loc rfl rfl rfl (by first | rfl | simp [mkL_length]) (by first | rfl | simp) | exact la_nil rfl | apply la_fn rfl | exact lend_same rfl rfl | exact lend_bor rfl rfl)), ?_⟩
  rw [codeN hk hm]
  (conv => whnf)
  refine ⟨_, _, unit3_c (by omega : k ≤ 16), (by repeat' (first | exact lends_nil | exact lend_dead | apply lends_cons | apply lend_agg | apply lend_one | exact all2_nil | apply all2_cons | exact la_lit rfl | exact la_int (by first | rfl | omega) | exact la_row rfl rfl | exact la_loc rfl rfl rfl (by first | rfl | simp [mkL_length]) (by first | rfl | simp) | exact la_nil rfl | apply la_fn rfl | exact lend_same rfl rfl | exact lend_bor rfl rfl)), ?_⟩; (conv => whnf)
  refine ⟨((k + m : Nat) : Int), by rw [← wrap64_id] <;> omega, ?_⟩; (conv => whnf)
  refine ⟨LG (fun q : Nat => q ≤ m) (fun q => m - q) (fun q => AS.of [(0, .one (vN k)), (1, .one (vN m)), (4, .one (.ptr 64 0)), (5, .one (.ptr 80 0)), (6, .one (vN q))] [(64, .var [.lit (.int .i64 0), .lit (.int .i64 0), .lit (.slice none 0 0), .lit (.int .i64 0)]), (80, .var [vN (k + m : Nat), vN k, .loc 226 0 ((k + q) * k)]), (226, .row true 1 ((cauchyN k q).flatten.map eNat))]),
    lg_init 0 (by omega) (weak_of (by repeat (first | refine all_cons (by first | rfl | exact eq_int rfl (by first | rfl | omega | (simp; done) | (simp; omega)) | exact eq_loc rfl (by first | rfl | omega | (simp; done) | (simp; omega)) | exact eq_bool rfl (by simp_all)) ?_ | exact all_nil)) (all_cons rfl (all_cons (eq_var rfl (by show [vN (k + m : Nat), vN k, .loc 226 0 ((((List.range k).map fun j => unitR j k).flatten).map eNat).length] = _; rw [hun, Nat.add_zero])) (all_cons (eq_row rfl (by simp [cauchyN])) all_nil))) rfl rfl), ?_⟩
  rintro σ j ⟨q, hq, rfl, rfl⟩
  refine ⟨_, Weak.refl _, ?_⟩
  (conv => whnf)
  (split <;> rename_i h <;> (try simp only [decide_eq_true_eq, decide_eq_false_iff_not, Bool.not_eq_true', Bool.not_eq_false', Bool.not_eq_true, Bool.not_eq_false, List.length_map] at h) <;> conv => whnf)
  · have hlq : q < m := by omega
    have hs : cauchyN k (q + 1) = cauchyN k q ++ [parR k q] := by unfold cauchyN; rw [range_succ_map, List.append_assoc]
    have hfq := hfl q
    have hbq := hfb q hq
    have hbq1 := hfb (q + 1) hlq
    have e1 : (k + (q + 1)) * k = (k + q) * k + k := by rw [← Nat.add_assoc, Nat.add_mul (k + q) 1, Nat.one_mul]
    refine ⟨LG (fun z : Nat => z ≤ k) (fun z => k - z) (fun z => AS.of [(0, .one (vN k)), (1, .one (vN m)), (4, .one (.ptr 64 0)), (5, .one (.ptr 80 0)), (6, .one (vN q)), (7, .one (vN z))] [(64, .var [.lit (.int .i64 0), .lit (.int .i64 0), .lit (.slice none 0 0), .lit (.int .i64 0)]), (80, .var [vN (k + m : Nat), vN k, .loc 226 0 ((k + q) * k + z)]), (226, .row true 1 (((cauchyN k q).flatten ++ (List.range z).map fun j => invN ((k + q) ^^^ j)).map eNat))]),
      lg_init 0 (by omega) (weak_of (by repeat (first | refine all_cons (by first | rfl | exact eq_int rfl (by first | rfl | omega | (simp; done) | (simp; omega)) | exact eq_loc rfl (by first | rfl | omega | (simp; done) | (simp; omega)) | exact eq_bool rfl (by simp_all)) ?_ | exact all_nil)) (all_cons rfl (all_cons rfl (all_cons (eq_row rfl (by simp)) all_nil))) rfl rfl), ?_⟩
    rintro σ j ⟨z, hz, rfl, rfl⟩
    have hll : ((cauchyN k q).flatten ++ (List.range z).map fun j => invN ((k + q) ^^^ j)).length = (k + q) * k + z := by rw [List.length_append, hfq, List.length_map, List.length_range]
    refine ⟨_, Weak.refl _, ?_⟩
    (conv => whnf)
    (split <;> rename_i h3 <;> (try simp only [decide_eq_true_eq, decide_eq_false_iff_not, Bool.not_eq_true', Bool.not_eq_false', Bool.not_eq_true, Bool.not_eq_false, List.length_map] at h3) <;> conv => whnf)
    · have hlz : z < k := by omega
      have hs2 := range_succ_map (fun j => invN ((k + q) ^^^ j)) z
      have hx : (k + q) ^^^ z < 16 := xor16 (by omega) (by omega)
      refine ⟨((k + q : Nat) : Int), by rw [← wrap64_id] <;> omega, ?_⟩; (conv => whnf)
      have hxx : bits .xor .i64 ((k + q : Nat) : Int) (z : Int) = (((k + q) ^^^ z : Nat) : Int) := xorN (by (try dsimp only); omega) (by (try dsimp only); omega)
      rw [hxx]
      refine ⟨_, _, fieldInv_c (a := (k + q) ^^^ z) (by omega), (by repeat' (first | exact lends_nil | exact lend_dead | apply lends_cons | apply lend_agg | apply lend_one | exact all2_nil | apply all2_cons | exact la_lit rfl | exact la_int (by first | rfl | omega) | exact la_row rfl rfl | exact la_loc rfl rfl rfl (by first | rfl | simp [mkL_length]) (by first | rfl | simp) | exact la_nil rfl | apply la_fn rfl | exact lend_same rfl rfl | exact lend_bor rfl rfl)), ?_⟩; (conv => whnf)
      refine ⟨true, [eNat (invN ((k + q) ^^^ z))], ⟨rfl, by simp [chunk], rfl, rfl⟩, ?_⟩; (conv => whnf)
      refine ⟨_, laid_map (f := eNat) (fun _ => rfl) [invN ((k + q) ^^^ z)], rfl, by rw [List.length_map, hll], rfl, by rw [List.length_map, hll]; simp only [maxLen, List.length_map, List.length_singleton]; omega, by rw [List.length_map, hll]; simp only [List.length_map, List.length_singleton]; omega, ?_⟩; (conv => whnf)
      refine ⟨((z + 1 : Nat) : Int), by rw [← wrap64_id] <;> omega, ?_⟩; (conv => whnf)
      exact lg_back (z + 1) (by omega) (by (try dsimp only); omega) (weak_of (by repeat (first | refine all_cons (by first | rfl | exact eq_int rfl (by first | rfl | omega | (simp; done) | (simp; omega)) | exact eq_loc rfl (by first | rfl | omega | (simp; done) | (simp; omega)) | exact eq_bool rfl (by simp_all)) ?_ | exact all_nil)) (all_cons rfl (all_cons (eq_var rfl (by rw [List.length_map, hll]; rfl)) (all_cons (eq_row rfl (by rw [hs2, ← List.append_assoc, List.map_append (l₂ := [_])])) all_nil))) rfl rfl)
    · have : z = k := by omega
      subst this
      refine ⟨((q + 1 : Nat) : Int), by rw [← wrap64_id] <;> omega, ?_⟩; (conv => whnf)
      exact lg_back (q + 1) (by omega) (by (try dsimp only); omega) (weak_of (by repeat (first | refine all_cons (by first | rfl | exact eq_int rfl (by first | rfl | omega | (simp; done) | (simp; omega)) | exact eq_loc rfl (by first | rfl | omega | (simp; done) | (simp; omega)) | exact eq_bool rfl (by simp_all)) ?_ | exact all_nil)) (all_cons rfl (all_cons (eq_var rfl (by rw [e1])) (all_cons (eq_row rfl (by rw [hs, List.flatten_append]; simp [parR])) all_nil))) rfl rfl)
  · have : q = m := by omega
    subst this
    exact ⟨close_int rfl, close_int rfl, close_row rfl rfl (by rw [List.length_map, hfl]) rfl, close_int rfl, trivial⟩
end Go.Proofs.YtdbnppipgblajaaGreatDoor
namespace Go.Proofs.YtdbnppipgblajaaGreatDoor
open Go.RowKit
set_option linter.unusedSimpArgs false
set_option linter.unusedVariables false
set_option maxHeartbeats 2000000
theorem close_lit {m : Nat → Option Blk} {v : Value} : closeAV m (.lit v) (.lit v) := by
  by_cases hv : v = .slice none 0 0
  · subst hv; exact .inl rfl
  · unfold closeAV
    split <;> first | (simp_all; done) | rfl
section
variable {P : Program} {w : World} {I : Nat → Prop}
/-- What is handed back may speak of the arguments' own values. -/
theorem raw_of_vc {E : Tab} (hE : E.ok P) {f : FuncId} {fn : Func} {x : Code} {args : List T} {r : (Nat → Value) → T} (hmix : P.follows .mixedOrders = true) (hf : P.funcs[f]? = some fn) (hb : fn.body = some x) (hname : (fn.name == "runtime.NumGoroutine") = false)
    (hok : okCode E fn.ntmps x = true) (hlen : args.length ≤ fn.ntmps) (hnb : ∀ u, (r u).nb = true) (ha : (args.all fun t => match t with | .one _ => true | .agg _ => true | _ => false) = true)
    (h : ∀ u : Nat → Value, (∀ (s : Nat) (o : Bool) (sz : Nat) (es : List (List AV)), (flatTs args)[s]? = some (.row o sz es) → ∃ A cap, u s = .slice A es.length cap ∧ es.length ≤ cap) → vcCode P E x (fin E fn.results.toList (r u)) (fun _ _ => False) (fin E fn.results.toList (r u)) ⟨fun t => (litTs u 0 args).getD t .dead, parM u args⟩) :
    ∀ (w : World) (I : Nat → Prop) (vs : Array Value), (∀ b, I b → b < w.heap.size) → GlW w I → RTL (c0 I) w args vs.toList → Calls P f vs w fun e w' => ∃ v F, e = .returned v ∧ ROT' (c0 I) w' F (r fun i => (flatV args vs.toList).getD i default) v ∧ (∀ k, F k → w.heap.size ≤ k ∧ k < w'.heap.size) ∧ Bel w.heap.size w w' := by
  intro w I vs hI hgl hargs
  let u : Nat → Value := fun i => (flatV args vs.toList).getD i default
  have hu : ∀ j v, (flatV args vs.toList)[j]? = some v → u j = v := fun j v hv => by simp [u, List.getD_eq_getElem?_getD, hv]
  let c : Ctx := ⟨fun s => if (parM u args s).isSome then some .nil else none, fun k => k < w.heap.size⟩
  have hargs' : RTL c w (litTs u 0 args) vs.toList := litTs_ok (c := c) hI ha hargs (fun j v hv => by rw [Nat.zero_add]; exact hu j v hv)
  have hll : ∀ {ts : List T} {i : Nat}, (litTs u i ts).length = ts.length := by
    intro ts
    induction ts with
    | nil => intro i; rfl
    | cons t ts ih => intro i; simp [litTs, ih]
  have hvl : vs.toList.length = args.length := by
    have : ∀ {ts : List T} {us : List Value}, RTL (c0 I) w ts us → us.length = ts.length := by
      intro ts
      induction ts with
      | nil => intro us h; cases us with | nil => rfl | cons => exact h.elim
      | cons t ts ih => intro us h; cases us with | nil => exact h.elim | cons u us => simp [ih h.2]
    exact this hargs
  have hat : ∀ {ts : List T} {us : List Value}, RTL c w ts us → ∀ t : Nat, RT c w (ts.getD t .dead) (us.getD t undef) := by
    intro ts
    induction ts with
    | nil => intro us h t; trivial
    | cons t ts ih =>
      intro us h k
      cases us with
      | nil => exact h.elim
      | cons u us =>
        cases k with
        | zero => exact h.1
        | succ k => exact ih h.2 k
  have hslice : ∀ (s : Nat) (o : Bool) (sz : Nat) (es : List (List AV)), (flatTs args)[s]? = some (.row o sz es) → ∃ A cap, u s = .slice A es.length cap ∧ es.length ≤ cap := fun s o sz es hg => by
    have hfl := flat_ok ha hargs
    have hi := (List.getElem?_eq_some_iff.1 hg).1
    have hl := RL.length hfl
    have hv : (flatV args vs.toList)[s]? = some ((flatV args vs.toList)[s]'(by omega)) := by simp
    have := (hfl.at hg hv).1
    rw [hu _ _ hv]
    generalize (flatV args vs.toList)[s]'(by omega) = v at this
    generalize hx : AV.row o sz es = x at this
    cases this with
    | row b o' vals a1 => cases hx; exact ⟨_, _, rfl, a1⟩
    | _ => cases hx
  refine calls_of_wp hf hb ?_
  have hH : H w (fun _ => False) fn.ntmps ⟨fun t => (litTs u 0 args).getD t .dead, parM u args⟩ { tmps := vs ++ Array.replicate (fn.ntmps - vs.size) undef, defers := [] } w c (fun _ _ => False) := by
    have hvs : vs.size = args.length := by simpa using hvl
    refine { gl := hgl.mono (fun b hb => ⟨hI b hb, fun h => h⟩) (Nat.le_refl _) (fun _ _ => rfl), keeps := ⟨rfl, rfl, rfl, Nat.le_refl _, fun _ _ _ => rfl, fun _ => Nat.le_refl _⟩, size := by simp; omega, defers := rfl, tm := fun t => ?_, mem := fun s k hk => ?_, dom := fun s hs => ?_, disj := fun _ _ _ h => h.elim, new := fun _ _ h => h.elim, imm := fun _ hk => hk, inn := fun _ _ h => h.elim, par := fun s v x hk => ?_ }
    · have := hat hargs' t
      by_cases ht : t < vs.size
      · have e : (vs ++ Array.replicate (fn.ntmps - vs.size) undef).getD t undef = vs.toList.getD t undef := by
          rw [Array.getD_eq_getD_getElem?, Array.getElem?_append_left ht]
          simp
        rw [e]; exact this
      · have e : (litTs u 0 args).getD t .dead = .dead := by rw [List.getD_eq_getElem?_getD, List.getElem?_eq_none (by rw [hll]; omega)]; rfl
        show RT _ _ ((litTs u 0 args).getD t .dead) _
        rw [e]; trivial
    · replace hk : parM u args s = some k := hk
      have hat0 : c.at_ s = some .nil := by simp [c, hk]
      unfold parM at hk
      split at hk
      · cases hk; exact ⟨hat0, fun _ h => h⟩
      · cases hk
    · replace hs : parM u args s = none := hs
      exact ⟨by simp [c, hs], fun _ h => h⟩
    · replace hk : parM u args s = some (.par v x) := hk
      unfold parM at hk
      split at hk
      · rename_i o sz es hg
        · cases hk
          refine ⟨rfl, ?_, fun k hk => hk.1⟩
          have hfl := flat_ok ha hargs
          have hi := (List.getElem?_eq_some_iff.1 hg).1
          have hl := RL.length hfl
          have hv : (flatV args vs.toList)[s]? = some ((flatV args vs.toList)[s]'(by omega)) := by simp
          have := (hfl.at hg hv).1
          rw [hu _ _ hv]
          exact R.free (c := c0 I) (fun b (hb : I b) => (show oldB w (fun _ => False) b from ⟨hI b hb, fun h => h⟩)) (fun _ _ => rfl) this rfl
      · cases hk
  have done : ∀ σ' a' w', Holds w (fun _ => False) fn.ntmps σ' a' w' → fin E fn.results.toList (r u) σ' → a'.defers = [] ∧ ∃ V, (results fn a'.tmps).run P w' = .ok V w' ∧ ∃ v F, Ending.returned V = .returned v ∧ ROT' (c0 I) w' F (r u) v ∧ (∀ k, F k → w.heap.size ≤ k ∧ k < w'.heap.size) ∧ Bel w.heap.size w w' := by
    rintro σ' a' w' ⟨c', F', h'⟩ hf'
    obtain ⟨V, h1, G, h2, h3⟩ := fin_ok hE h' hf'
    refine ⟨h'.defers, V, h1, V, G, rfl, h2.nb (hnb u), fun k hk => ?_, ⟨h'.keeps.os, h'.keeps.tape, h'.keeps.output, h'.keeps.size, fun k hk => h'.keeps.block k hk (fun h => h), h'.keeps.dr⟩⟩
    obtain ⟨s, hs⟩ := h3 k hk
    have := h'.new s k hs
    exact ⟨this.1.resolve_right (fun h => h), this.2⟩
  exact vc_ok hE hmix x (n := fn.ntmps) (w0 := w) (L := fun _ => False) hok (fun σ' a' w' h1 h2 => done σ' a' w' h1 h2) (fun _ _ _ _ _ h => h.elim) (fun σ' a' w' h1 h2 => done σ' a' w' h1 h2) (h u hslice) ⟨_, _, hH⟩

end
section
variable {P : Program} {w0 w : World} {L : Nat → Prop} {n : Nat} {σ : AS} {a : Act} {c : Ctx} {F : Nat → Nat → Prop}
theorem RTL.evals (h : H w0 L n σ a w c F) : ∀ l : List Operand, RTL c w (l.map σ.get) (l.map a.eval)
  | [] => trivial
  | x :: l => ⟨h.get x, RTL.evals h l⟩
theorem lent_lt (h : H w0 L n σ a w c F) (b : Nat) (hb : lentI0 c F (oldB w0 L) b) : b < w.heap.size := by
  rcases hb with hb | ⟨s, hb⟩ | hb
  · exact h.imm b hb
  · exact (h.new s b hb).2
  · exact Nat.lt_of_lt_of_le hb.1 h.keeps.size
end
end Go.Proofs.YtdbnppipgblajaaGreatDoor
namespace Go.Proofs.YtdbnppipgblajaaGreatDoor
open Go.RowKit
set_option linter.unusedSimpArgs false
set_option linter.unusedVariables false
/-- A part of a slice. -/
def subV (sz : Nat) (v : Value) (lo k : Nat) : Value := match v with
  | .slice A n cap => .slice (if cap = lo then A else A.map (·.add (lo * sz))) k (cap - lo)
  | v => v
theorem R.sub {c : Ctx} {w : World} {o : Bool} {sz : Nat} {es : List (List AV)} {v : Value} (h : R c w (.row o sz es) v) {lo k : Nat} (hle : lo + k ≤ es.length) : R c w (.row false sz ((es.drop lo).take k)) (subV sz v lo k) := by
  cases h with
  | @row _ _ _ A cap b off vals a1 a2 a3 a4 a0 a5 a6 a7 =>
    have hel : ∀ (i j : Nat) (x : AV), elt ((es.drop lo).take k) i j = some x → elt es (lo + i) j = some x := fun i j x hx => by
      unfold elt at hx ⊢
      rw [List.getElem?_take] at hx
      split at hx
      · rwa [List.getElem?_drop] at hx
      · simp at hx
    have hlen : ((es.drop lo).take k).length = k := by rw [List.length_take, List.length_drop]; omega
    have key := R.row (c := c) (w := w) (own := false) (sz := sz) (es := (es.drop lo).take k) (A := if cap = lo then A else A.map (·.add (lo * sz))) (cap := cap - lo) b (off + lo * sz) (fun i j => vals (lo + i) j)
      (by rw [hlen]; omega) (by omega) (fun hlt => by
        rw [hlen] at hlt
        obtain ⟨rfl, hI⟩ := a3 (by omega)
        refine ⟨?_, hI⟩
        rw [if_neg (by omega)]
        exact congrArg some (Addr.add_lit b off _)) (fun e he => a4 e (List.mem_of_mem_drop (List.mem_of_mem_take he))) (fun i j x hx => a0 _ _ _ (hel i j x hx))
      (fun i j x hx => by have := a5 _ _ _ (hel i j x hx); rw [Nat.add_mul] at this; rw [← this]; congr 2; omega) (fun i j x hx => a6 _ _ _ (hel i j x hx)) (fun i j x hx => a7 _ _ _ (hel i j x hx))
    rw [hlen] at key
    exact key
/-- THE CONTRACT: it hands back a part of the row that is its argument's cell j. -/
def FunSub (P : Program) (f : FuncId) (args : List T) (j sz lo k : Nat) : Prop :=
  Callable P f ∧ ∀ (w : World) (I : Nat → Prop) (vs : Array Value), (∀ b, I b → b < w.heap.size) → GlW w I → RTL (c0 I) w args vs.toList → Calls P f vs w fun e w' => e = .returned (subV sz ((flatV args vs.toList).getD j default) lo k) ∧ Bel w.heap.size w w'
section
variable {P : Program}
theorem sub_of_vc {E : Tab} (hE : E.ok P) {f : FuncId} {fn : Func} {x : Code} {args : List T} (j sz lo k : Nat) (hmix : P.follows .mixedOrders = true) (hf : P.funcs[f]? = some fn) (hb : fn.body = some x) (hname : (fn.name == "runtime.NumGoroutine") = false)
    (hok : okCode E fn.ntmps x = true) (hlen : args.length ≤ fn.ntmps) (ha : (args.all fun t => match t with | .one _ => true | .agg _ => true | _ => false) = true)
    (h : ∀ u : Nat → Value, (∀ (s : Nat) (o : Bool) (sz : Nat) (es : List (List AV)), (flatTs args)[s]? = some (.row o sz es) → ∃ A cap, u s = .slice A es.length cap ∧ es.length ≤ cap) → vcCode P E x (fin E fn.results.toList (.one (.lit (subV sz (u j) lo k)))) (fun _ _ => False) (fin E fn.results.toList (.one (.lit (subV sz (u j) lo k)))) ⟨fun t => (litTs u 0 args).getD t .dead, parM u args⟩) : FunSub P f args j sz lo k := by
  refine ⟨⟨fn, hf, by simp [hb], hname⟩, fun w I vs hI hgl hargs => ?_⟩
  refine (raw_of_vc hE (r := fun u => .one (.lit (subV sz (u j) lo k))) hmix hf hb hname hok hlen (fun _ => rfl) ha h w I vs hI hgl hargs).mono ?_
  rintro e w' ⟨v, F, rfl, hv, _, hb⟩
  obtain ⟨hv, _⟩ := hv
  cases hv with
  | plain _ h _ => cases h; exact ⟨rfl, hb⟩
end
section
variable {P : Program} {w0 w : World} {L : Nat → Prop} {n : Nat} {σ : AS} {a : Act} {c : Ctx} {F : Nat → Nat → Prop}
theorem sub_ok {f : FuncId} {us : List T} {j sz lo k : Nat} {args : List Operand} {o : Bool} {es : List (List AV)} (hf : FunSub P f us j sz lo k) (hu : args.map σ.get = us) (ha : (us.all fun t => match t with | .one _ => true | .agg _ => true | _ => false) = true)
    (hl : LendTs σ.mem us us) (hj : (flatTs us)[j]? = some (.row o sz es)) (hle : lo + k ≤ es.length) : CallOk P f args σ σ (.one (.row false sz ((es.drop lo).take k))) := by
  subst hu
  refine ⟨hf.1, fun w0 L n a w ⟨c, F, h⟩ => ?_⟩
  have hR := RTL.evals h args
  refine (hf.2 w (lentI0 c F (oldB w0 L)) (args.map a.eval).toArray (lent_lt h) h.glw (by simpa using RTL.lend h (Sup.refl σ) hR hl)).mono ?_
  rintro e w' ⟨rfl, hb⟩
  refine ⟨_, c, F, rfl, h.world hb, ?_⟩
  have hfl := flat_ok ha (RTL.evals (h.world hb) args)
  have hi := (List.getElem?_eq_some_iff.1 hj).1
  have hlen := RL.length hfl
  have hv : (flatV (args.map σ.get) (args.map a.eval))[j]? = some ((flatV (args.map σ.get) (args.map a.eval))[j]'(by omega)) := by simp
  have := (hfl.at hj hv).1
  rw [show (args.map a.eval).toArray.toList = args.map a.eval by simp, List.getD_eq_getElem?_getD, hv, Option.getD_some]
  generalize (flatV (args.map σ.get) (args.map a.eval))[j]'(by omega) = v at this
  refine ⟨this.sub hle, ?_⟩
  generalize hx : AV.row o sz es = x at this
  cases this with
  | row b o' vals => rfl
  | _ => cases hx
end
end Go.Proofs.YtdbnppipgblajaaGreatDoor
namespace Go.Proofs.YtdbnppipgblajaaGreatDoor
open Go.RowKit
set_option linter.unusedSimpArgs false
set_option linter.unusedVariables false
set_option maxRecDepth 100000
set_option maxHeartbeats 4000000
theorem eq_rowT {t : T} {o : Bool} {sz : Nat} {es es' : List (List AV)} (h : t = .one (.row o sz es)) (e : es = es') : t = .one (.row o sz es') := by rw [h, e]
theorem rowSub_c {r c : Nat} {cs : List Nat} {o : Bool} {i : Nat} (hle : (i + 1) * c ≤ cs.length) (hl : cs.length ≤ 65536) (hi : i ≤ 65536) : FunSub Tryz.prog 91 [.agg [vN r, vN c, .row o 1 (cs.map eNat)], .one (vN i)] 2 1 (i * c) c := by
  have e : (i + 1) * c = i * c + c := by rw [Nat.add_mul, Nat.one_mul]
  refine sub_of_vc tb_ok 2 1 (i * c) c mix (fn := Tryz.f91) Tryz.func91 rfl (by kernel_rfl) (by kernel_rfl) (by simp [Tryz.f91]) rfl fun u hu => ?_
  obtain ⟨A, cap, h2, hcap⟩ := hu 2 o 1 (cs.map eNat) rfl
  rw [List.length_map] at h2 hcap
  have e1 : litTs u 0 [.agg [vN r, vN c, .row o 1 (cs.map eNat)], .one (vN i)] = [.agg [vN r, vN c, .lit (.slice A cs.length cap)], .one (vN i)] := by simp [litTs, litT, litL, litA, h2]
  rw [e1, h2]
  (conv => whnf)
  refine ⟨((i * c : Nat) : Int), by rw [← wrap64_id] <;> omega, ?_⟩; (conv => whnf)
  refine ⟨((i + 1 : Nat) : Int), by rw [← wrap64_id] <;> omega, ?_⟩; (conv => whnf)
  refine ⟨(((i + 1) * c : Nat) : Int), by rw [← wrap64_id] <;> omega, ?_⟩; (conv => whnf)
  refine ⟨by simp only [Option.getD]; omega, by simp only [Option.getD]; omega, by simp only [Option.getD]; omega, hcap, subV 1 (.slice A cs.length cap) (i * c) c, ?_, ?_⟩
  · show Value.slice _ c _ = Value.slice _ ((i + 1) * c - i * c) _
    rw [e, Nat.add_sub_cancel_left]; rfl
  (conv => whnf)
  exact ⟨close_lit, trivial⟩
theorem row_len {cs : List Nat} {r c i : Nat} (hcs : cs.length = r * c) (h : i < r) : (i + 1) * c ≤ cs.length := by rw [hcs]; exact Nat.mul_le_mul_right _ h
theorem row_get {cs : List Nat} {r c i j : Nat} (hcs : cs.length = r * c) (h : i < r) (hj : j < c) : ((cs.drop (i * c)).take c)[j]? = some (cs.getD (i * c + j) 0) ∧ cs.getD (i * c + j) 0 ∈ cs := by
  have := row_len hcs h
  rw [Nat.add_mul] at this
  have hlt : i * c + j < cs.length := by omega
  rw [List.getElem?_take, if_pos hj, List.getElem?_drop, List.getD_eq_getElem?_getD, List.getElem?_eq_getElem hlt]
  exact ⟨rfl, List.getElem_mem hlt⟩
theorem combImpl_c (r c L : Nat) (cs : List Nat) (texts : List ByteArray) (hr : r ≤ 255) (hc0 : c ≤ 255) (hcs : cs.length = r * c) (hlt : ∀ x ∈ cs, x < 256) (hc : c ≤ texts.length) (h0 : 0 < texts.length) (htl : texts.length ≤ 65536) (ht : ∀ t ∈ texts, t.size = L) (hL : L ≤ 4294967296) :
    Fun1 Tryz.prog 68 [.agg (matE r c cs), .one (.row true 1 (texts.map eStr))] (.one (.row true 1 ((combN r c cs texts L).map eStr))) := by
  have hcl : cs.length ≤ 65536 := by rw [hcs]; exact Nat.le_trans (Nat.mul_le_mul hr hc0) (by decide)
  have ht0 : (texts[0]).size = L := ht _ (List.getElem_mem h0)
  refine fun1_of_vc tb_ok mix (fn := Tryz.f68) Tryz.func68 rfl (by kernel_rfl) (by kernel_rfl) (by simp [Tryz.f68]) (by show AV.nb (4 + 1) _ = true; exact nb_map (n := 4) (fun y => rfl) _) ?_
  (conv => whnf)
  refine ⟨LG (fun i : Nat => i ≤ r) (fun i => r - i) (fun i => AS.of [(1, .one (.row true 1 (texts.map eStr))), (2, .one (.ptr 32 0)), (5, .one (.loc 944 0 i)), (12, .one (vN r)), (13, .one (vN i))] [(32, .var (matE r c cs)), (944, .row true 1 ((combN i c cs texts L).map eStr))]),
    lg_init 0 (by omega) (weak_nil 5 944 1 rfl rfl (weak_of (by repeat (first | refine all_cons (by first | rfl | exact eq_int rfl (by first | rfl | omega | (simp; done) | (simp; omega)) | exact eq_loc rfl (by first | rfl | omega | (simp; done) | (simp; omega)) | exact eq_bool rfl (by simp_all)) ?_ | exact all_nil)) (by repeat (first | refine all_cons (by first | rfl | exact eq_int rfl (by first | rfl | omega | (simp; done) | (simp; omega)) | exact eq_loc rfl (by first | rfl | omega | (simp; done) | (simp; omega)) | exact eq_bool rfl (by simp_all)) ?_ | exact all_nil)) rfl rfl)), ?_⟩
  rintro σ k ⟨i, hi, rfl, rfl⟩
  have hcn : (combN i c cs texts L).length = i := by simp [combN]
  refine ⟨_, Weak.refl _, ?_⟩
  (conv => whnf)
  (split <;> rename_i h <;> (try simp only [decide_eq_true_eq, decide_eq_false_iff_not, Bool.not_eq_true', Bool.not_eq_false', Bool.not_eq_true, Bool.not_eq_false, List.length_map] at h) <;> conv => whnf)
  · have hlr : i < r := by omega
    have hrl := row_len hcs hlr
    have hcs1 : combN (i + 1) c cs texts L = combN i c cs texts L ++ [txtOf (lineN cs texts L (i * c) c)] := range_succ_map _ i
    refine ⟨0, rfl, eStr texts[0], at_map h0, ?_⟩; (conv => whnf)
    refine ⟨L, by rw [ht0], Int.le_refl _, by omega, by simp [maxLen]; omega, ?_⟩; (conv => whnf)
    refine ⟨_, _, sub_ok (rowSub_c (r := r) (c := c) (cs := cs) (o := false) (i := i) hrl hcl (by omega)) rfl rfl (by repeat' (first | exact lends_nil | exact lend_dead | apply lends_cons | apply lend_agg | apply lend_one | exact all2_nil | apply all2_cons | exact la_lit rfl | exact la_int (by first | rfl | omega) | exact la_row rfl rfl | exact la_loc rfl rfl rfl (by first | rfl | simp [mkL_length]) (by first | rfl | simp) | exact la_nil rfl | apply la_fn rfl | exact lend_same rfl rfl | exact lend_bor rfl rfl)) rfl (by rw [List.length_map]; rw [Nat.add_mul] at hrl; omega), ?_⟩; (conv => whnf)
    refine ⟨LG (fun j : Nat => j ≤ c) (fun j => c - j) (fun j => AS.of [(1, .one (.row true 1 (texts.map eStr))), (2, .one (.ptr 32 0)), (5, .one (.loc 944 0 i)), (7, .one (.loc 320 0 L)), (12, .one (vN r)), (13, .one (vN i)), (23, .one (.row false 1 (((cs.drop (i * c)).take c).map eNat))), (24, .one (vN c)), (25, .one (vN j))]
      [(32, .var (matE r c cs)), (944, .row true 1 ((combN i c cs texts L).map eStr)), (320, .row true 1 ((lineN cs texts L (i * c) j).map byteE))]), lg_init 0 (by omega) (weak_of (all_cons rfl (all_cons rfl (all_cons rfl (all_cons rfl (all_cons rfl (all_cons rfl (all_cons (eq_rowT rfl (by rw [List.map_take, List.map_drop])) (all_cons (eq_int rfl (by rw [Nat.add_mul] at hrl; simp; omega)) (all_cons rfl all_nil))))))))) (all_cons rfl (all_cons rfl (all_cons (eq_row rfl (by simp [lineN, byteE])) all_nil))) rfl rfl), ?_⟩
    rintro σ k ⟨j, hj, rfl, rfl⟩
    have hll := lineN_len cs texts L (i * c) j
    refine ⟨_, Weak.refl _, ?_⟩
    (conv => whnf)
    (split <;> rename_i h2 <;> (try simp only [decide_eq_true_eq, decide_eq_false_iff_not, Bool.not_eq_true', Bool.not_eq_false', Bool.not_eq_true, Bool.not_eq_false, List.length_map] at h2) <;> conv => whnf)
    · have hlj : j < c := by omega
      obtain ⟨hg, hgm⟩ := row_get hcs hlr hlj
      obtain ⟨x, hx⟩ : ∃ x, cs.getD (i * c + j) 0 = x := ⟨_, rfl⟩
      rw [hx] at hg hgm
      have hx256 := hlt x hgm
      refine ⟨j, rfl, eNat x, by rw [List.getElem?_map, hg]; rfl, ?_⟩; (conv => whnf)
      (split <;> rename_i h3 <;> (try simp only [decide_eq_true_eq, decide_eq_false_iff_not, Bool.not_eq_true', Bool.not_eq_false', Bool.not_eq_true, Bool.not_eq_false, List.length_map] at h3) <;> conv => whnf)
      · have hx0 : x = 0 := by omega
        (refine ⟨((j + 1 : Nat) : Int), by rw [← wrap64_id] <;> omega, ?_⟩; conv => whnf)
        exact lg_back (j + 1) (by omega) (by (try dsimp only); omega) (weak_of (by repeat (first | refine all_cons (by first | rfl | exact eq_int rfl (by first | rfl | omega | (simp; done) | (simp; omega)) | exact eq_loc rfl (by first | rfl | omega | (simp; done) | (simp; omega)) | exact eq_bool rfl (by simp_all)) ?_ | exact all_nil)) (all_cons rfl (all_cons rfl (all_cons (eq_row rfl (by rw [lineN_skip (by rw [hx, hx0])])) all_nil))) rfl rfl)
      · have htj : (texts[j]'(by omega)).size = L := ht _ (List.getElem_mem _)
        have hfn : (fun q => mulB (cs.getD (i * c + j) 0) (byteAt (texts.getD j .empty) q)) = fun q => mulB x (byteAt (texts[j]'(by omega)) q) := by
          funext q; rw [hx, List.getD_eq_getElem?_getD, List.getElem?_eq_getElem (by omega : j < texts.length)]; rfl
        refine ⟨LG (fun p : Nat => p ≤ L) (fun p => L - p) (fun p => AS.of [(1, .one (.row true 1 (texts.map eStr))), (2, .one (.ptr 32 0)), (5, .one (.loc 944 0 i)), (7, .one (.loc 320 0 L)), (8, .one (vN j)), (9, .one (vN x)), (12, .one (vN r)), (13, .one (vN i)), (23, .one (.row false 1 (((cs.drop (i * c)).take c).map eNat))), (24, .one (vN c)), (25, .one (vN j)), (33, .one (vN L)), (34, .one (vN p))]
          [(32, .var (matE r c cs)), (944, .row true 1 ((combN i c cs texts L).map eStr)), (320, .row true 1 ((turnL (lineN cs texts L (i * c) j) (fun q => mulB (cs.getD (i * c + j) 0) (byteAt (texts.getD j .empty) q)) p).map byteE))]), lg_init 0 (by omega) (weak_of (by repeat (first | refine all_cons (by first | rfl | exact eq_int rfl (by first | rfl | omega | (simp; done) | (simp; omega)) | exact eq_loc rfl (by first | rfl | omega | (simp; done) | (simp; omega)) | exact eq_bool rfl (by simp_all)) ?_ | exact all_nil)) (all_cons rfl (all_cons rfl (all_cons (eq_row rfl (by rw [turnL_zero])) all_nil))) rfl rfl), ?_⟩
        rw [hfn]
        rintro σ k ⟨p, hp, rfl, rfl⟩
        have htl2 := turnL_len (old := lineN cs texts L (i * c) j) (f := fun q => mulB x (byteAt (texts[j]'(by omega)) q)) (p := p) (by omega)
        refine ⟨_, Weak.refl _, ?_⟩
        (conv => whnf)
        (split <;> rename_i h4 <;> (try simp only [decide_eq_true_eq, decide_eq_false_iff_not, Bool.not_eq_true', Bool.not_eq_false', Bool.not_eq_true, Bool.not_eq_false, List.length_map] at h4) <;> conv => whnf)
        · have hlp : p < L := by omega
          have hgp := turnL_get (old := lineN cs texts L (i * c) j) (f := fun q => mulB x (byteAt (texts[j]'(by omega)) q)) (p := p) (by omega)
          have hst := turnL_set (old := lineN cs texts L (i * c) j) (f := fun q => mulB x (byteAt (texts[j]'(by omega)) q)) (p := p) (by omega)
          refine ⟨p, rfl, hlp, ?_⟩; (conv => whnf)
          refine ⟨byteE ((lineN cs texts L (i * c) j).getD p 0), by rw [Nat.zero_add, List.getElem?_map, hgp]; rfl, ?_⟩; (conv => whnf)
          refine ⟨j, rfl, eStr (texts[j]'(by omega)), at_map (by omega), ?_⟩; (conv => whnf)
          refine ⟨p, rfl, by omega, ?_⟩; (conv => whnf)
          refine ⟨((byteAt (texts[j]'(by omega)) p).toNat : Int), (wrapN (by have := (byteAt (texts[j]'(by omega)) p).toNat_lt; omega)).symm, ?_⟩; (conv => whnf)
          refine ⟨_, _, mulImpl_c hx256 (byteAt (texts[j]'(by omega)) p).toNat_lt, (by repeat' (first | exact lends_nil | exact lend_dead | apply lends_cons | apply lend_agg | apply lend_one | exact all2_nil | apply all2_cons | exact la_lit rfl | exact la_int (by first | rfl | omega) | exact la_row rfl rfl | exact la_loc rfl rfl rfl (by first | rfl | simp [mkL_length]) (by first | rfl | simp) | exact la_nil rfl | apply la_fn rfl | exact lend_same rfl rfl | exact lend_bor rfl rfl)), ?_⟩; (conv => whnf)
          refine ⟨_, (u8_wrapI _).symm, ?_⟩; (conv => whnf)
          refine ⟨p, rfl, hlp, ?_⟩; (conv => whnf)
          refine ⟨byteE ((lineN cs texts L (i * c) j).getD p 0), by rw [Nat.zero_add, List.getElem?_map, hgp]; rfl, ?_⟩; (conv => whnf)
          refine ⟨_, rfl, ?_⟩; (conv => whnf)
          (refine ⟨((p + 1 : Nat) : Int), by rw [← wrap64_id] <;> omega, ?_⟩; conv => whnf)
          exact lg_back (p + 1) (by omega) (by (try dsimp only); omega) (weak_of (by repeat (first | refine all_cons (by first | rfl | exact eq_int rfl (by first | rfl | omega | (simp; done) | (simp; omega)) | exact eq_loc rfl (by first | rfl | omega | (simp; done) | (simp; omega)) | exact eq_bool rfl (by simp_all)) ?_ | exact all_nil)) (all_cons rfl (all_cons rfl (all_cons (eq_row rfl (by rw [← hst, List.map_set, Nat.zero_add]; exact congrArg (fun z => List.set _ p [AV.lit (.int .u8 z)]) (u8_xorI _ _))) all_nil))) rfl rfl)
        · have : p = L := by omega
          subst this
          (refine ⟨((j + 1 : Nat) : Int), by rw [← wrap64_id] <;> omega, ?_⟩; conv => whnf)
          exact lg_back (j + 1) (by omega) (by (try dsimp only); omega) (weak_of (by repeat (first | refine all_cons (by first | rfl | exact eq_int rfl (by first | rfl | omega | (simp; done) | (simp; omega)) | exact eq_loc rfl (by first | rfl | omega | (simp; done) | (simp; omega)) | exact eq_bool rfl (by simp_all)) ?_ | exact all_nil)) (all_cons rfl (all_cons rfl (all_cons (eq_row rfl (by rw [lineN, hfn])) all_nil))) rfl rfl)
    · have : j = c := by omega
      subst this
      refine ⟨true, _, lineN cs texts L (i * j) j, ⟨rfl, by rw [List.length_map, hll]; omega, rfl, rfl⟩, by rw [List.drop_zero]; exact List.take_of_length_le (by rw [List.length_map, hll]; omega), ?_⟩; (conv => whnf)
      refine ⟨true, [eStr (txtOf (lineN cs texts L (i * j) j))], ⟨rfl, by simp [chunk], rfl, rfl⟩, ?_⟩; (conv => whnf)
      refine ⟨_, laid_map (f := eStr) (fun _ => rfl) [txtOf (lineN cs texts L (i * j) j)], rfl, by rw [List.length_map, hcn], rfl, by rw [List.length_map, hcn]; simp [maxLen]; omega, by rw [List.length_map, hcn]; simp; omega, ?_⟩; (conv => whnf)
      (refine ⟨((i + 1 : Nat) : Int), by rw [← wrap64_id] <;> omega, ?_⟩; conv => whnf)
      exact lg_back (i + 1) (by omega) (by (try dsimp only); omega) (weak_of (all_cons rfl (all_cons rfl (all_cons (eq_loc rfl (by rw [List.length_map, hcn]; rfl)) (all_cons rfl (all_cons rfl all_nil))))) (all_cons rfl (all_cons (eq_row rfl (by rw [hcs1, List.map_append])) all_nil)) rfl rfl)
  · have : i = r := by omega
    subst this
    exact ⟨close_row rfl rfl (by rw [List.length_map, hcn]) rfl, trivial⟩
end Go.Proofs.YtdbnppipgblajaaGreatDoor
namespace Go.Proofs.YtdbnppipgblajaaGreatDoor
open Go.RowKit
set_option linter.unusedSimpArgs false
set_option linter.unusedVariables false
set_option maxRecDepth 100000
set_option maxHeartbeats 4000000
theorem combSpec_c (r c L : Nat) (cs : List Nat) (texts : List ByteArray) (hr : r ≤ 255) (hc0 : c ≤ 255) (hcs : cs.length = r * c) (hlt : ∀ x ∈ cs, x < 256) (hc : c ≤ texts.length) (h0 : 0 < texts.length) (htl : texts.length ≤ 65536) (ht : ∀ t ∈ texts, t.size = L) (hL : L ≤ 4294967296) :
    Fun1 Tryz.prog 54 [.agg (matE r c cs), .one (.row true 1 (texts.map eStr))] (.one (.row true 1 ((combN r c cs texts L).map eStr))) := by
  have hcl : cs.length ≤ 65536 := by rw [hcs]; exact Nat.le_trans (Nat.mul_le_mul hr hc0) (by decide)
  have ht0 : (texts[0]).size = L := ht _ (List.getElem_mem h0)
  refine fun1_of_vc tb_ok mix (fn := Tryz.f54) Tryz.func54 rfl (by kernel_rfl) (by kernel_rfl) (by simp [Tryz.f54]) (by show AV.nb (4 + 1) _ = true; exact nb_map (n := 4) (fun y => rfl) _) ?_
  (conv => whnf)
  refine ⟨LG (fun i : Nat => i ≤ r) (fun i => r - i) (fun i => AS.of [(1, .one (.row true 1 (texts.map eStr))), (2, .one (.ptr 32 0)), (5, .one (.loc 176 0 i)), (6, .one (vN i))] [(32, .var (matE r c cs)), (176, .row true 1 ((combN i c cs texts L).map eStr))]),
    lg_init 0 (by omega) (weak_of (by repeat (first | refine all_cons (by first | rfl | exact eq_int rfl (by first | rfl | omega | (simp; done) | (simp; omega)) | exact eq_loc rfl (by first | rfl | omega | (simp; done) | (simp; omega)) | exact eq_bool rfl (by simp_all)) ?_ | exact all_nil)) (by repeat (first | refine all_cons (by first | rfl | exact eq_int rfl (by first | rfl | omega | (simp; done) | (simp; omega)) | exact eq_loc rfl (by first | rfl | omega | (simp; done) | (simp; omega)) | exact eq_bool rfl (by simp_all)) ?_ | exact all_nil)) rfl rfl), ?_⟩
  rintro σ k ⟨i, hi, rfl, rfl⟩
  have hcn : (combN i c cs texts L).length = i := by simp [combN]
  refine ⟨_, Weak.refl _, ?_⟩
  (conv => whnf)
  (split <;> rename_i h <;> (try simp only [decide_eq_true_eq, decide_eq_false_iff_not, Bool.not_eq_true', Bool.not_eq_false', Bool.not_eq_true, Bool.not_eq_false, List.length_map] at h) <;> conv => whnf)
  · have hlr : i < r := by omega
    have hrl := row_len hcs hlr
    have hcs1 : combN (i + 1) c cs texts L = combN i c cs texts L ++ [txtOf (lineN cs texts L (i * c) c)] := range_succ_map _ i
    refine ⟨0, rfl, eStr texts[0], at_map h0, ?_⟩; (conv => whnf)
    refine ⟨L, by rw [ht0], Int.le_refl _, by omega, by simp [maxLen]; omega, ?_⟩; (conv => whnf)
    refine ⟨LG (fun j : Nat => j ≤ c) (fun j => c - j) (fun j => AS.of [(1, .one (.row true 1 (texts.map eStr))), (2, .one (.ptr 32 0)), (5, .one (.loc 176 0 i)), (6, .one (vN i)), (7, .one (.loc 352 0 L)), (8, .one (vN j))]
      [(32, .var (matE r c cs)), (176, .row true 1 ((combN i c cs texts L).map eStr)), (352, .row true 1 ((lineN cs texts L (i * c) j).map byteE))]), lg_init 0 (by omega) (weak_of (by repeat (first | refine all_cons (by first | rfl | exact eq_int rfl (by first | rfl | omega | (simp; done) | (simp; omega)) | exact eq_loc rfl (by first | rfl | omega | (simp; done) | (simp; omega)) | exact eq_bool rfl (by simp_all)) ?_ | exact all_nil)) (all_cons rfl (all_cons rfl (all_cons (eq_row rfl (by simp [lineN, byteE])) all_nil))) rfl rfl), ?_⟩
    rintro σ k ⟨j, hj, rfl, rfl⟩
    have hll := lineN_len cs texts L (i * c) j
    refine ⟨_, Weak.refl _, ?_⟩
    (conv => whnf)
    (split <;> rename_i h2 <;> (try simp only [decide_eq_true_eq, decide_eq_false_iff_not, Bool.not_eq_true', Bool.not_eq_false', Bool.not_eq_true, Bool.not_eq_false, List.length_map] at h2) <;> conv => whnf)
    · have hlj : j < c := by omega
      obtain ⟨hg, hgm⟩ := row_get hcs hlr hlj
      have hij : i * c + j < cs.length := by rw [Nat.add_mul] at hrl; omega
      obtain ⟨x, hx⟩ : ∃ x, cs.getD (i * c + j) 0 = x := ⟨_, rfl⟩
      have hgx : cs[i * c + j]? = some x := by rw [← hx, List.getD_eq_getElem?_getD, List.getElem?_eq_getElem hij]; rfl
      rw [hx] at hgm
      have hx256 := hlt x hgm
      refine ⟨((i * c : Nat) : Int), by rw [← wrap64_id] <;> omega, ?_⟩; (conv => whnf)
      refine ⟨((i * c + j : Nat) : Int), by rw [← wrap64_id] <;> omega, ?_⟩; (conv => whnf)
      refine ⟨i * c + j, rfl, eNat x, by rw [List.getElem?_map, hgx]; rfl, ?_⟩; (conv => whnf)
      have htj : (texts[j]'(by omega)).size = L := ht _ (List.getElem_mem _)
      have hfn : (fun q => mulB (cs.getD (i * c + j) 0) (byteAt (texts.getD j .empty) q)) = fun q => mulB x (byteAt (texts[j]'(by omega)) q) := by
        funext q; rw [hx, List.getD_eq_getElem?_getD, List.getElem?_eq_getElem (by omega : j < texts.length)]; rfl
      refine ⟨LG (fun p : Nat => p ≤ L ∧ (x = 0 → p = 0)) (fun p => L - p) (fun p => AS.of [(1, .one (.row true 1 (texts.map eStr))), (2, .one (.ptr 32 0)), (5, .one (.loc 176 0 i)), (6, .one (vN i)), (7, .one (.loc 352 0 L)), (8, .one (vN j)), (9, .one (vN x)), (10, .one (vN p))]
        [(32, .var (matE r c cs)), (176, .row true 1 ((combN i c cs texts L).map eStr)), (352, .row true 1 ((turnL (lineN cs texts L (i * c) j) (fun q => mulB (cs.getD (i * c + j) 0) (byteAt (texts.getD j .empty) q)) p).map byteE))]), lg_init 0 ⟨by omega, fun _ => rfl⟩ (weak_of (by repeat (first | refine all_cons (by first | rfl | exact eq_int rfl (by first | rfl | omega | (simp; done) | (simp; omega)) | exact eq_loc rfl (by first | rfl | omega | (simp; done) | (simp; omega)) | exact eq_bool rfl (by simp_all)) ?_ | exact all_nil)) (all_cons rfl (all_cons rfl (all_cons (eq_row rfl (by rw [turnL_zero])) all_nil))) rfl rfl), ?_⟩
      rw [hfn]
      rintro σ k ⟨p, ⟨hp, hp0⟩, rfl, rfl⟩
      have htl2 := turnL_len (old := lineN cs texts L (i * c) j) (f := fun q => mulB x (byteAt (texts[j]'(by omega)) q)) (p := p) (by omega)
      have fin : ∀ q : Nat, q = p → (x = 0 ∨ q = L) → ((turnL (lineN cs texts L (i * c) j) (fun q => mulB x (byteAt (texts[j]'(by omega)) q)) p).map byteE) = (lineN cs texts L (i * c) (j + 1)).map byteE := by
        rintro q rfl (e | e)
        · rw [hp0 e, turnL_zero, lineN_skip (by rw [hx, e])]
        · rw [lineN, hfn, e]
      refine ⟨_, Weak.refl _, ?_⟩
      (conv => whnf)
      (split <;> rename_i h4 <;> (try simp only [decide_eq_true_eq, decide_eq_false_iff_not, Bool.not_eq_true', Bool.not_eq_false', Bool.not_eq_true, Bool.not_eq_false, List.length_map] at h4) <;> conv => whnf)
      · (split <;> rename_i h5 <;> (try simp only [decide_eq_true_eq, decide_eq_false_iff_not, Bool.not_eq_true', Bool.not_eq_false', Bool.not_eq_true, Bool.not_eq_false, List.length_map] at h5) <;> conv => whnf)
        · have hlp : p < L := by omega
          have hgp := turnL_get (old := lineN cs texts L (i * c) j) (f := fun q => mulB x (byteAt (texts[j]'(by omega)) q)) (p := p) (by omega)
          have hst := turnL_set (old := lineN cs texts L (i * c) j) (f := fun q => mulB x (byteAt (texts[j]'(by omega)) q)) (p := p) (by omega)
          refine ⟨p, rfl, hlp, ?_⟩; (conv => whnf)
          refine ⟨byteE ((lineN cs texts L (i * c) j).getD p 0), by rw [Nat.zero_add, List.getElem?_map, hgp]; rfl, ?_⟩; (conv => whnf)
          refine ⟨j, rfl, eStr (texts[j]'(by omega)), at_map (by omega), ?_⟩; (conv => whnf)
          refine ⟨p, rfl, by omega, ?_⟩; (conv => whnf)
          refine ⟨((byteAt (texts[j]'(by omega)) p).toNat : Int), (wrapN (by have := (byteAt (texts[j]'(by omega)) p).toNat_lt; omega)).symm, ?_⟩; (conv => whnf)
          refine ⟨_, _, mulSpec_c (byteAt (texts[j]'(by omega)) p).toNat_lt hx256, (by repeat' (first | exact lends_nil | exact lend_dead | apply lends_cons | apply lend_agg | apply lend_one | exact all2_nil | apply all2_cons | exact la_lit rfl | exact la_int (by first | rfl | omega) | exact la_row rfl rfl | exact la_loc rfl rfl rfl (by first | rfl | simp [mkL_length]) (by first | rfl | simp) | exact la_nil rfl | apply la_fn rfl | exact lend_same rfl rfl | exact lend_bor rfl rfl)), ?_⟩; (conv => whnf)
          refine ⟨_, (u8_wrapI _).symm, ?_⟩; (conv => whnf)
          refine ⟨p, rfl, hlp, ?_⟩; (conv => whnf)
          refine ⟨byteE ((lineN cs texts L (i * c) j).getD p 0), by rw [Nat.zero_add, List.getElem?_map, hgp]; rfl, ?_⟩; (conv => whnf)
          refine ⟨_, rfl, ?_⟩; (conv => whnf)
          (refine ⟨((p + 1 : Nat) : Int), by rw [← wrap64_id] <;> omega, ?_⟩; conv => whnf)
          exact lg_back (p + 1) ⟨by omega, fun e => absurd e (by omega)⟩ (by (try dsimp only); omega) (weak_of (by repeat (first | refine all_cons (by first | rfl | exact eq_int rfl (by first | rfl | omega | (simp; done) | (simp; omega)) | exact eq_loc rfl (by first | rfl | omega | (simp; done) | (simp; omega)) | exact eq_bool rfl (by simp_all)) ?_ | exact all_nil)) (all_cons rfl (all_cons rfl (all_cons (eq_row rfl (by rw [← hst, List.map_set, Nat.zero_add, mulN_comm (byteAt (texts[j]'(by omega)) p).toNat_lt hx256]; exact congrArg (fun z => List.set _ p [AV.lit (.int .u8 z)]) (u8_xorI _ _))) all_nil))) rfl rfl)
        · (refine ⟨((j + 1 : Nat) : Int), by rw [← wrap64_id] <;> omega, ?_⟩; conv => whnf)
          exact lg_back (j + 1) (by omega) (by (try dsimp only); omega) (weak_of (by repeat (first | refine all_cons (by first | rfl | exact eq_int rfl (by first | rfl | omega | (simp; done) | (simp; omega)) | exact eq_loc rfl (by first | rfl | omega | (simp; done) | (simp; omega)) | exact eq_bool rfl (by simp_all)) ?_ | exact all_nil)) (all_cons rfl (all_cons rfl (all_cons (eq_row rfl (fin p rfl (.inl (by omega)))) all_nil))) rfl rfl)
      · (refine ⟨((j + 1 : Nat) : Int), by rw [← wrap64_id] <;> omega, ?_⟩; conv => whnf)
        exact lg_back (j + 1) (by omega) (by (try dsimp only); omega) (weak_of (by repeat (first | refine all_cons (by first | rfl | exact eq_int rfl (by first | rfl | omega | (simp; done) | (simp; omega)) | exact eq_loc rfl (by first | rfl | omega | (simp; done) | (simp; omega)) | exact eq_bool rfl (by simp_all)) ?_ | exact all_nil)) (all_cons rfl (all_cons rfl (all_cons (eq_row rfl (fin p rfl (.inr (by omega)))) all_nil))) rfl rfl)
    · have : j = c := by omega
      subst this
      refine ⟨true, _, lineN cs texts L (i * j) j, ⟨rfl, by rw [List.length_map, hll]; omega, rfl, rfl⟩, by rw [List.drop_zero]; exact List.take_of_length_le (by rw [List.length_map, hll]; omega), ?_⟩; (conv => whnf)
      refine ⟨true, [eStr (txtOf (lineN cs texts L (i * j) j))], ⟨rfl, by simp [chunk], rfl, rfl⟩, ?_⟩; (conv => whnf)
      refine ⟨_, laid_map (f := eStr) (fun _ => rfl) [txtOf (lineN cs texts L (i * j) j)], rfl, by rw [List.length_map, hcn], rfl, by rw [List.length_map, hcn]; simp [maxLen]; omega, by rw [List.length_map, hcn]; simp; omega, ?_⟩; (conv => whnf)
      (refine ⟨((i + 1 : Nat) : Int), by rw [← wrap64_id] <;> omega, ?_⟩; conv => whnf)
      exact lg_back (i + 1) (by omega) (by (try dsimp only); omega) (weak_of (all_cons rfl (all_cons rfl (all_cons (eq_loc rfl (by rw [List.length_map, hcn]; rfl)) (all_cons rfl all_nil)))) (all_cons rfl (all_cons (eq_row rfl (by rw [hcs1, List.map_append])) all_nil)) rfl rfl)
  · have : i = r := by omega
    subst this
    exact ⟨close_row rfl rfl (by rw [List.length_map, hcn]) rfl, trivial⟩
end Go.Proofs.YtdbnppipgblajaaGreatDoor
namespace Go.Proofs.YtdbnppipgblajaaGreatDoor
open Go.RowKit
set_option linter.unusedSimpArgs false
set_option linter.unusedVariables false
section
variable {P : Program} {σ : AS}
theorem elt_byte {l : List UInt8} {i j : Nat} {x : AV} (h : elt (l.map byteE) i j = some x) : ∃ hi : i < l.length, j = 0 ∧ x = .lit (.int .u8 (l[i].toNat : Int)) := by
  unfold elt at h
  rw [List.getElem?_map] at h
  cases hq : l[i]? with
  | none => simp [hq] at h
  | some a =>
    obtain ⟨hi, rfl⟩ := List.getElem?_eq_some_iff.1 hq
    simp only [hq, Option.map_some, Option.bind_some, byteE] at h
    cases j with
    | zero => simp at h; exact ⟨hi, rfl, h.symm⟩
    | succ j => simp at h
theorem copyStr_ok {dT sT e : TypeId} {x y : Operand} {s : Nat} {ls : List UInt8} {t : ByteArray} (hu : P.underlying dT = some (.slice e)) {inf : TypeInfo} (hinf : P.info? e = some inf) (hsz : inf.size = 1)
    (hx : σ.get x = .one (.loc s 0 ls.length)) (hy : σ.get y = .one (.lit (.string t))) (hs : σ.mem s = some (.row true 1 (ls.map byteE))) (hle : t.size ≤ ls.length) :
    CopyOk P dT sT x y σ (σ.set s (.row true 1 ((t.data.toList ++ ls.drop t.size).map byteE))) (.one (.lit (.int .i64 (t.size : Nat)))) := by
  intro w0 L n a w ty ⟨c, F, h⟩
  have hX := h.get x
  have hY := h.get y
  rw [hx] at hX
  rw [hy] at hY
  obtain ⟨hX, _⟩ := hX
  have hY := one_lit hY
  rw [hY]
  generalize a.eval x = X at hX ⊢
  have htl : t.data.toList.length = t.size := by simp
  have hset : (t.data.toList ++ ls.drop t.size).length = ls.length := by rw [List.length_append, htl, List.length_drop]; omega
  rcases h.mem s _ hs with ⟨hat, he, hF⟩ | ⟨b, cap, hat, C, el, fz, G, a1, a2, a3, a4, a5, a6, a7, a8, a9, a10, a11, a12⟩
  · have hl0 : ls = [] := by simpa using he
    subst hl0
    have ht0 : t.size = 0 := by simpa using hle
    have htn : t.data.toList = [] := List.eq_nil_of_length_eq_zero (by rw [htl, ht0])
    generalize hq : ([] : List UInt8).length = q at hX
    cases hX with
    | loc h1 => rw [hat] at h1; cases h1
    | locnil _ =>
      refine ⟨goInt 0, w, by simp [Builtin.copy_, run_underlying hu, Builtin.lenOf, Builtin.firstCells, sizeOf, typeInfo, hinf, ht0, storeCells, Nat.min_def], c, F, ?_, ?_⟩
      · have : σ.set s (.row true 1 ((t.data.toList ++ ([] : List UInt8).drop t.size).map byteE)) = σ := by
          rw [htn, List.drop_nil, List.nil_append]
          cases σ with | mk tm mem =>
          simp only [AS.set, AS.mk.injEq, true_and]
          funext k
          split
          · rename_i e; subst e; exact hs.symm
          · rfl
        rw [this]; exact h
      · rw [ht0]; exact RT_lit _ rfl
  · have hlen : (ls.map byteE).length = ls.length := by simp
    rw [hlen] at a3
    generalize hq : ls.length = q at hX
    cases hX with
    | locnil h1 => rw [hat] at h1; cases h1
    | @loc _ _ _ b' cap' sz' A h1 hle2 hA =>
      rw [hat] at h1; cases h1
      subst hq
      have hF : F s b := (a12 b).2 (.inl rfl)
      have hnotop : ∀ q, c.I q → q ≠ b := fun q hq e => by subst e; exact ((h.inn s q hF).1 hq) (.inr ⟨_, _, hat⟩)
      have h1c : ∀ v ∈ t.data.toList.map (fun b : UInt8 => Value.int IntKind.u8 (b.toNat : Int)), v.oneCell' = true := fun v hv => by
        obtain ⟨z, _, rfl⟩ := List.mem_map.1 hv; rfl
      obtain ⟨news, hnews⟩ : ∃ news, t.data.toList.map (fun b : UInt8 => Value.int IntKind.u8 (b.toNat : Int)) = news := ⟨_, rfl⟩
      have hnl : news.length = t.size := by rw [← hnews, List.length_map, htl]
      have hrun : (Builtin.copy_ #[dT, sT] ty #[.slice A ls.length (cap - 0), .string t]).run P w = .ok (goInt t.size) (if t.size = 0 then w else w.setRow b (news ++ C.toList.drop t.size).toArray) := by
        have hmin : Nat.min t.size ls.length = t.size := Nat.min_eq_left hle
        have htk : List.take t.size news = news := List.take_of_length_le (by rw [hnl]; exact Nat.le_refl _)
        by_cases h0 : t.size = 0
        · rw [if_pos h0]
          have hn0 : news = [] := List.eq_nil_of_length_eq_zero (by rw [hnl, h0])
          cases A <;> simp [Builtin.copy_, run_underlying hu, Builtin.lenOf, Builtin.firstCells, sizeOf, typeInfo, hinf, h0, storeCells, Nat.min_def]
        · rw [if_neg h0]
          obtain rfl := hA (by omega)
          have hst := run_storeCells_unfz P b 0 el fz news 0 C w a1 a2 (by rw [hnl]; omega) (by rw [← hnews]; exact h1c)
          simp only [Nat.add_zero, List.take_zero, List.nil_append, Nat.zero_add, hnl] at hst
          simp [Builtin.copy_, run_underlying hu, Builtin.lenOf, Builtin.firstCells, sizeOf, typeInfo, hinf, hmin, hsz]
          rw [hnews, htk, hst]
          simp
      refine ⟨_, _, hrun, ?_⟩
      have hHs : ∀ w', w' = (if t.size = 0 then w else w.setRow b (news ++ C.toList.drop t.size).toArray) → ∃ c' F', H w0 L n (σ.set s (.row true 1 ((t.data.toList ++ ls.drop t.size).map byteE))) a w' c' F' := by
        rintro w' rfl
        by_cases h0 : t.size = 0
        · rw [if_pos h0]
          have htn : t.data.toList = [] := List.eq_nil_of_length_eq_zero (by rw [htl, h0])
          have : σ.set s (.row true 1 ((t.data.toList ++ ls.drop t.size).map byteE)) = σ := by
            rw [htn, h0]
            cases σ with | mk tm mem =>
            simp only [AS.set, AS.mk.injEq, true_and, List.nil_append, List.drop_zero]
            funext k
            split
            · rename_i e; subst e; exact hs.symm
            · rfl
          rw [this]; exact ⟨_, _, h⟩
        · rw [if_neg h0]
          have hCl : C.size = cap := by rw [a5, Nat.mul_one]
          refine ⟨c, _, h.setBlk hs (G := fun k => k = b) (fun k hk => by subst hk; exact hF) (fun b' hb' => setRow_other w b b' _ fun e => hb' (by subst e; exact .inr ⟨_, _, hat⟩)) (by simp) rfl rfl rfl ?_⟩
          refine .inr ⟨b, cap, hat, _, el, fz, fun _ _ _ => False, setRow_heap w b C _ el fz a1, fun i hi => a2 i (by simp [hnl] at hi ⊢; omega), by simp only [List.length_map, hset]; exact a3, a4, by simp [hnl]; omega, fun e he => by obtain ⟨z, _, rfl⟩ := List.mem_map.1 he; rfl, ?_, ?_, fun _ _ h => h, fun _ _ _ _ _ h => h.elim, fun _ _ _ h => h.elim, fun k => ⟨.inl, fun h => h.resolve_right (by simp)⟩⟩
          all_goals
            intro i j x v hx' hv
            obtain ⟨hi, rfl, rfl⟩ := elt_byte hx'
            rw [hset] at hi
            have hcv : v = .int .u8 ((t.data.toList ++ ls.drop t.size)[i]'(by rw [hset]; exact hi)).toNat := by
              simp only [Nat.mul_one, Nat.add_zero, List.getElem?_toArray] at hv
              by_cases hit : i < t.size
              · rw [List.getElem?_append_left (by rw [hnl]; exact hit), ← hnews, List.getElem?_map, List.getElem?_eq_getElem (by rw [htl]; exact hit)] at hv
                rw [List.getElem_append_left (by rw [htl]; exact hit)]
                simpa using hv.symm
              · rw [List.getElem?_append_right (by rw [hnl]; omega), hnl, List.getElem?_drop] at hv
                have hx2 : elt (ls.map byteE) i 0 = some (.lit (.int .u8 (ls[i].toNat : Int))) := by simp [elt, hi, byteE]
                have hcc : C[i * 1 + 0]? = some v := by rw [← hv]; simp; congr 1; omega
                rcases a8 i 0 _ v hx2 hcc with h5 | h5
                · cases h5 with | plain _ h6 _ => cases h6; rw [List.getElem_append_right (by rw [htl]; omega)]; simp only [List.getElem_drop, htl]; congr 2; congr 1; congr 1; omega
                · cases h5.1
            subst hcv
            first | rfl | exact .inl (.plain rfl (.lit _) (fun _ h => h))
      obtain ⟨c', F', hH'⟩ := hHs _ rfl
      exact ⟨c', F', hH', RT_lit _ rfl⟩
end
end Go.Proofs.YtdbnppipgblajaaGreatDoor
namespace Go.Proofs.YtdbnppipgblajaaGreatDoor
open Go.RowKit
set_option linter.unusedSimpArgs false
set_option linter.unusedVariables false
set_option maxRecDepth 100000
set_option maxHeartbeats 4000000
def shN (k size : Nat) : Nat := (size + k - 1) / k
theorem shN_bounds {k size : Nat} (hk : 1 ≤ k) : size ≤ k * shN k size ∧ k * shN k size ≤ size + k - 1 ∧ shN k size ≤ size := by
  unfold shN
  have h1 := Nat.div_mul_le_self (size + k - 1) k
  have h2 := Nat.lt_div_mul_add (a := size + k - 1) (b := k) (by omega)
  rw [Nat.mul_comm k]
  refine ⟨by omega, h1, ?_⟩
  rcases Nat.eq_zero_or_pos size with rfl | h
  · rw [Nat.zero_add, Nat.div_eq_of_lt (by omega)]; exact Nat.le_refl _
  · refine Nat.div_le_of_le_mul ?_
    have : size + k ≤ k * size + 1 := by
      have := Nat.mul_le_mul (show 1 ≤ k from hk) (show 1 ≤ size from h)
      obtain ⟨k', rfl⟩ : ∃ k', k = k' + 1 := ⟨k - 1, by omega⟩
      have : k' * 1 ≤ k' * size := Nat.mul_le_mul_left _ h
      rw [Nat.add_mul]; omega
    omega
def padN (k : Nat) (t : ByteArray) : List UInt8 := t.data.toList ++ List.replicate (k * shN k t.size - t.size) 0
def cutN (k : Nat) (t : ByteArray) : List ByteArray := (List.range k).map fun i => txtOf (((padN k t).drop (i * shN k t.size)).take (shN k t.size))
theorem padN_len {k : Nat} (hk : 1 ≤ k) (t : ByteArray) : (padN k t).length = k * shN k t.size := by
  have := (shN_bounds (size := t.size) hk).1
  unfold padN
  rw [List.length_append, List.length_replicate]
  have h : t.data.toList.length = t.size := by simp
  rw [h]; omega
theorem txtOf_size (l : List UInt8) : (txtOf l).size = l.length := rfl
theorem cutN_len (k : Nat) (t : ByteArray) : (cutN k t).length = k := by simp [cutN]
theorem cut_le {k i n : Nat} (h : i < k) : i * n + n ≤ k * n := by
  have : (i + 1) * n ≤ k * n := Nat.mul_le_mul_right _ h
  rw [Nat.add_mul] at this; omega
theorem cutN_size {k : Nat} (hk : 1 ≤ k) (t : ByteArray) : ∀ x ∈ cutN k t, x.size = shN k t.size := by
  intro x hx
  obtain ⟨i, hi, rfl⟩ := List.mem_map.1 hx
  have hi := List.mem_range.1 hi
  rw [txtOf_size, List.length_take, List.length_drop, padN_len hk]
  have := cut_le (n := shN k t.size) hi
  omega
/-- The shards of a text. -/
def encN (k m : Nat) (t : ByteArray) : List ByteArray := combN (k + m) k (cauchyN k m).flatten (cutN k t) (shN k t.size)
theorem extract_txt (s : ByteArray) (a b : Nat) : s.extract a b = txtOf ((s.data.toList.drop a).take (b - a)) := by
  apply ByteArray.ext
  apply Array.ext'
  rw [Lib.extract_data]
  rfl
theorem shardImpl_c {k n : Nat} (hk : 1 ≤ k ∧ k ≤ 8) (hn : n ≤ 20000) : Fun1 Tryz.prog 96 [.one (vN k), .one (vN n)] (.one (vN (shN k n))) := by
  refine fun1_of_vc tb_ok mix (fn := Tryz.f96) Tryz.func96 rfl (by kernel_rfl) (by kernel_rfl) (by simp [Tryz.f96]) (by rfl) ?_
  (conv => whnf)
  refine ⟨_, _, within_c k 1 8, (by repeat' (first | exact lends_nil | exact lend_dead | apply lends_cons | apply lend_agg | apply lend_one | exact all2_nil | apply all2_cons | exact la_lit rfl | exact la_int (by first | rfl | omega) | exact la_row rfl rfl | exact la_loc rfl rfl rfl (by first | rfl | simp [mkL_length]) (by first | rfl | simp) | exact la_nil rfl | apply la_fn rfl | exact lend_same rfl rfl | exact lend_bor rfl rfl)), ?_⟩
  rw [show (decide ((1 : Int) ≤ (k : Int)) && decide ((k : Int) ≤ 8)) = true by simp; omega]
  (conv => whnf)
  refine ⟨_, _, within_c n 0 20000, (by repeat' (first | exact lends_nil | exact lend_dead | apply lends_cons | apply lend_agg | apply lend_one | exact all2_nil | apply all2_cons | exact la_lit rfl | exact la_int (by first | rfl | omega) | exact la_row rfl rfl | exact la_loc rfl rfl rfl (by first | rfl | simp [mkL_length]) (by first | rfl | simp) | exact la_nil rfl | apply la_fn rfl | exact lend_same rfl rfl | exact lend_bor rfl rfl)), ?_⟩
  rw [show (decide ((0 : Int) ≤ (n : Int)) && decide ((n : Int) ≤ 20000)) = true by simp; omega]
  (conv => whnf)
  refine ⟨((n + k : Nat) : Int), by rw [← wrap64_id] <;> omega, ?_⟩; (conv => whnf)
  refine ⟨((n + k - 1 : Nat) : Int), by rw [← wrap64_id] <;> omega, ?_⟩; (conv => whnf)
  refine ⟨by omega, (shN k n : Nat), ?_, ?_⟩
  · rw [show ((n + k - 1 : Nat) : Int).tdiv (k : Int) = ((shN k n : Nat) : Int) from rfl]
    exact (wrapN (by have := (shN_bounds (size := n) hk.1).2.2; omega)).symm
  (conv => whnf)
  exact ⟨close_int rfl, trivial⟩
theorem l04Size_c (n : Int) : Fun1 Tryz.prog 75 [.one (.lit (.int .i64 n))] (.one (.lit (.bool (decide (0 ≤ n) && decide (n ≤ 20000))))) := by
  refine fun1_of_vc tb_ok mix (fn := Tryz.f75) Tryz.func75 rfl (by kernel_rfl) (by kernel_rfl) (by simp [Tryz.f75]) (by rfl) ?_
  (conv => whnf)
  (repeat' (split <;> rename_i hb <;> (try simp only [decide_eq_true_eq, decide_eq_false_iff_not, Bool.not_eq_true', Bool.not_eq_false', Bool.not_eq_true, Bool.not_eq_false, List.length_map] at hb) <;> conv => whnf))
  all_goals exact ⟨close_bool (by simp [*]), trivial⟩
theorem shardSpec_c {k n : Nat} (hk : 1 ≤ k ∧ k ≤ 8) (hn : n ≤ 20000) : Fun1 Tryz.prog 53 [.one (vN k), .one (vN n)] (.one (vN (shN k n))) := by
  refine fun1_of_vc tb_ok mix (fn := Tryz.f53) Tryz.func53 rfl (by kernel_rfl) (by kernel_rfl) (by simp [Tryz.f53]) (by rfl) ?_
  (conv => whnf)
  refine ⟨_, _, codeSpec_c k 0, (by repeat' (first | exact lends_nil | exact lend_dead | apply lends_cons | apply lend_agg | apply lend_one | exact all2_nil | apply all2_cons | exact la_lit rfl | exact la_int (by first | rfl | omega) | exact la_row rfl rfl | exact la_loc rfl rfl rfl (by first | rfl | simp [mkL_length]) (by first | rfl | simp) | exact la_nil rfl | apply la_fn rfl | exact lend_same rfl rfl | exact lend_bor rfl rfl)), ?_⟩
  rw [show codeOk (k : Int) 0 = true from codeN (m := 0) hk (by decide)]
  (conv => whnf)
  refine ⟨_, _, l04Size_c n, (by repeat' (first | exact lends_nil | exact lend_dead | apply lends_cons | apply lend_agg | apply lend_one | exact all2_nil | apply all2_cons | exact la_lit rfl | exact la_int (by first | rfl | omega) | exact la_row rfl rfl | exact la_loc rfl rfl rfl (by first | rfl | simp [mkL_length]) (by first | rfl | simp) | exact la_nil rfl | apply la_fn rfl | exact lend_same rfl rfl | exact lend_bor rfl rfl)), ?_⟩
  rw [show (decide ((0 : Int) ≤ (n : Int)) && decide ((n : Int) ≤ 20000)) = true by simp; omega]
  (conv => whnf)
  refine ⟨((n + k : Nat) : Int), by rw [← wrap64_id] <;> omega, ?_⟩; (conv => whnf)
  refine ⟨((n + k - 1 : Nat) : Int), by rw [← wrap64_id] <;> omega, ?_⟩; (conv => whnf)
  refine ⟨by omega, (shN k n : Nat), ?_, ?_⟩
  · rw [show ((n + k - 1 : Nat) : Int).tdiv (k : Int) = ((shN k n : Nat) : Int) from rfl]
    exact (wrapN (by have := (shN_bounds (size := n) hk.1).2.2; omega)).symm
  (conv => whnf)
  exact ⟨close_int rfl, trivial⟩
theorem cutImpl2_c {k : Nat} {t : ByteArray} (hk : 1 ≤ k ∧ k ≤ 8) (ht : t.size ≤ 20000) : Fun1 Tryz.prog 70 [.one (vN k), .one (.lit (.string t))] (.one (.row true 1 ((cutN k t).map eStr))) := by
  obtain ⟨n, hn⟩ : ∃ n, shN k t.size = n := ⟨_, rfl⟩
  have hb := shN_bounds (size := t.size) hk.1
  have hpl := padN_len hk.1 t
  have hcs := shardImpl_c hk ht
  have hpt : t ++ txtOf (List.replicate (k * n - t.size) 0) = txtOf (padN k t) := by
    apply ByteArray.ext; apply Array.ext'; simp [txtOf, padN, hn]
  rw [hn] at hb hpl hcs
  have hcut : ∀ q, (List.range (q + 1)).map (fun i => txtOf (((padN k t).drop (i * n)).take n)) = (List.range q).map (fun i => txtOf (((padN k t).drop (i * n)).take n)) ++ [txtOf (((padN k t).drop (q * n)).take n)] := fun q => range_succ_map _ q
  have hcN : cutN k t = (List.range k).map (fun i => txtOf (((padN k t).drop (i * n)).take n)) := by rw [cutN, hn]
  rw [hcN]
  refine fun1_of_vc tb_ok mix (fn := Tryz.f70) Tryz.func70 rfl (by kernel_rfl) (by kernel_rfl) (by simp [Tryz.f70]) (by show AV.nb (4 + 1) _ = true; exact nb_map (n := 4) (fun y => rfl) _) ?_
  (conv => whnf)
  refine ⟨_, _, long_c t, (by repeat' (first | exact lends_nil | exact lend_dead | apply lends_cons | apply lend_agg | apply lend_one | exact all2_nil | apply all2_cons | exact la_lit rfl | exact la_int (by first | rfl | omega) | exact la_row rfl rfl | exact la_loc rfl rfl rfl (by first | rfl | simp [mkL_length]) (by first | rfl | simp) | exact la_nil rfl | apply la_fn rfl | exact lend_same rfl rfl | exact lend_bor rfl rfl)), ?_⟩; (conv => whnf)
  refine ⟨_, _, hcs, (by repeat' (first | exact lends_nil | exact lend_dead | apply lends_cons | apply lend_agg | apply lend_one | exact all2_nil | apply all2_cons | exact la_lit rfl | exact la_int (by first | rfl | omega) | exact la_row rfl rfl | exact la_loc rfl rfl rfl (by first | rfl | simp [mkL_length]) (by first | rfl | simp) | exact la_nil rfl | apply la_fn rfl | exact lend_same rfl rfl | exact lend_bor rfl rfl)), ?_⟩; (conv => whnf)
  refine ⟨((k * n : Nat) : Int), by rw [← wrap64_id] <;> omega, ?_⟩; (conv => whnf)
  refine ⟨((k * n - t.size : Nat) : Int), by rw [← wrap64_id] <;> omega, ?_⟩; (conv => whnf)
  refine ⟨_, _, repeatZ_c (k * n - t.size) (by omega), (by repeat' (first | exact lends_nil | exact lend_dead | apply lends_cons | apply lend_agg | apply lend_one | exact all2_nil | apply all2_cons | exact la_lit rfl | exact la_int (by first | rfl | omega) | exact la_row rfl rfl | exact la_loc rfl rfl rfl (by first | rfl | simp [mkL_length]) (by first | rfl | simp) | exact la_nil rfl | apply la_fn rfl | exact lend_same rfl rfl | exact lend_bor rfl rfl)), ?_⟩; (conv => whnf)
  refine ⟨by rw [txtOf_size, List.length_replicate]; omega, ?_⟩
  rw [hpt]
  (conv => whnf)
  refine ⟨LG (fun i : Nat => i ≤ k) (fun i => k - i) (fun i => AS.of [(1, .one (.lit (.string (txtOf (padN k t))))), (5, .one (vN n)), (6, .one (.loc 576 0 i)), (21, .one (vN k)), (22, .one (vN i))] [(576, .row true 1 (((List.range i).map (fun i => txtOf (((padN k t).drop (i * n)).take n))).map eStr))]),
    lg_init 0 (by omega) (weak_nil 6 576 1 rfl rfl (weak_of (by repeat (first | refine all_cons (by first | rfl | exact eq_int rfl (by first | rfl | omega | (simp; done) | (simp; omega)) | exact eq_loc rfl (by first | rfl | omega | (simp; done) | (simp; omega)) | exact eq_bool rfl (by simp_all)) ?_ | exact all_nil)) (by repeat (first | refine all_cons (by first | rfl | exact eq_int rfl (by first | rfl | omega | (simp; done) | (simp; omega)) | exact eq_loc rfl (by first | rfl | omega | (simp; done) | (simp; omega)) | exact eq_bool rfl (by simp_all)) ?_ | exact all_nil)) rfl rfl)), ?_⟩
  rintro σ j ⟨i, hi, rfl, rfl⟩
  refine ⟨_, Weak.refl _, ?_⟩
  (conv => whnf)
  (split <;> rename_i h <;> (try simp only [decide_eq_true_eq, decide_eq_false_iff_not, Bool.not_eq_true', Bool.not_eq_false', Bool.not_eq_true, Bool.not_eq_false, List.length_map] at h) <;> conv => whnf)
  · have hlt : i < k := by omega
    have hle := cut_le (n := n) hlt
    refine ⟨((i * n : Nat) : Int), by rw [← wrap64_id] <;> omega, ?_⟩; (conv => whnf)
    refine ⟨((i + 1 : Nat) : Int), by rw [← wrap64_id] <;> omega, ?_⟩; (conv => whnf)
    refine ⟨((i * n + n : Nat) : Int), by rw [show ((i + 1 : Nat) : Int) * (n : Int) = ((i * n + n : Nat) : Int) by rw [← Int.natCast_mul, Nat.add_mul, Nat.one_mul], ← wrap64_id] <;> omega, ?_⟩; (conv => whnf)
    refine ⟨by simp only [Option.getD]; omega, by simp only [Option.getD]; omega, by simp only [Option.getD]; rw [txtOf_size, hpl]; omega, txtOf (((padN k t).drop (i * n)).take n), ?_, ?_⟩
    · rw [extract_txt]
      show _ = txtOf (List.take (i * n + n - i * n) (List.drop (i * n) (padN k t)))
      rw [Nat.add_sub_cancel_left]
    (conv => whnf)
    refine ⟨true, [eStr (txtOf (((padN k t).drop (i * n)).take n))], ⟨rfl, by simp [chunk], rfl, rfl⟩, ?_⟩; (conv => whnf)
    refine ⟨_, laid_map (f := eStr) (fun _ => rfl) [txtOf (((padN k t).drop (i * n)).take n)], rfl, by simp, rfl, by simp [maxLen]; omega, by simp; omega, ?_⟩; (conv => whnf)
    (refine ⟨((i + 1 : Nat) : Int), by rw [← wrap64_id] <;> omega, ?_⟩; conv => whnf)
    exact lg_back (i + 1) (by omega) (by (try dsimp only); omega) (weak_of (all_cons rfl (all_cons rfl (all_cons (eq_loc rfl (by simp)) (all_cons rfl (all_cons rfl all_nil))))) (all_cons (eq_row rfl (by rw [hcut, List.map_append])) all_nil) rfl rfl)
  · have : i = k := by omega
    subst this
    exact ⟨close_row rfl rfl (by simp) rfl, trivial⟩
theorem cauchy_lt {k m : Nat} (hk : k ≤ 8) (hm : m ≤ 6) : ∀ x ∈ (cauchyN k m).flatten, x < 256 := by
  intro x hx
  obtain ⟨r, hr, hx⟩ := List.mem_flatten.1 hx
  simp only [cauchyN, List.mem_append, List.mem_map, List.mem_range] at hr
  rcases hr with ⟨i, _, rfl⟩ | ⟨i, hi, rfl⟩
  · unfold unitR at hx
    rcases List.mem_or_eq_of_mem_set hx with h | h
    · rw [List.eq_of_mem_replicate h]; decide
    · rw [h]; decide
  · obtain ⟨j, hj, rfl⟩ := List.mem_map.1 hx
    have := List.mem_range.1 hj
    exact invN_lt (Nat.lt_of_lt_of_le (xor16 (by omega) (by omega)) (by decide))
theorem cauchy_cells (k m : Nat) : (cauchyN k m).flatten.length = (k + m) * k := by rw [flat_len' (fun x hx => cauchyN_row x hx), cauchyN_len]
theorem encImpl_c {k m : Nat} {t : ByteArray} (hk : 1 ≤ k ∧ k ≤ 8) (hm : m ≤ 6) (ht : t.size ≤ 20000) : Fun1 Tryz.prog 46 [.one (vN k), .one (vN m), .one (.lit (.string t))] (.one (.row true 1 ((encN k m t).map eStr))) := by
  have hb := shN_bounds (size := t.size) hk.1
  have hcb := combImpl_c (k + m) k (shN k t.size) (cauchyN k m).flatten (cutN k t) (by omega) (by omega) (cauchy_cells k m) (cauchy_lt hk.2 hm) (by rw [cutN_len]; exact Nat.le_refl _) (by rw [cutN_len]; omega) (by rw [cutN_len]; omega) (cutN_size hk.1 t) (by omega)
  refine fun1_of_vc tb_ok mix (fn := Tryz.f46) Tryz.func46 rfl (by kernel_rfl) (by kernel_rfl) (by simp [Tryz.f46]) (by show AV.nb (4 + 1) _ = true; exact nb_map (n := 4) (fun y => rfl) _) ?_
  (conv => whnf)
  refine ⟨_, _, cauchyImpl_c hk hm, (by repeat' (first | exact lends_nil | exact lend_dead | apply lends_cons | apply lend_agg | apply lend_one | exact all2_nil | apply all2_cons | exact la_lit rfl | exact la_int (by first | rfl | omega) | exact la_row rfl rfl | exact la_loc rfl rfl rfl (by first | rfl | simp [mkL_length]) (by first | rfl | simp) | exact la_nil rfl | apply la_fn rfl | exact lend_same rfl rfl | exact lend_bor rfl rfl)), ?_⟩; (conv => whnf)
  refine ⟨_, _, cutImpl2_c hk ht, (by repeat' (first | exact lends_nil | exact lend_dead | apply lends_cons | apply lend_agg | apply lend_one | exact all2_nil | apply all2_cons | exact la_lit rfl | exact la_int (by first | rfl | omega) | exact la_row rfl rfl | exact la_loc rfl rfl rfl (by first | rfl | simp [mkL_length]) (by first | rfl | simp) | exact la_nil rfl | apply la_fn rfl | exact lend_same rfl rfl | exact lend_bor rfl rfl)), ?_⟩; (conv => whnf)
  refine ⟨_, _, hcb, (by repeat' (first | exact lends_nil | exact lend_dead | apply lends_cons | apply lend_agg | apply lend_one | exact all2_nil | apply all2_cons | exact la_lit rfl | exact la_int (by first | rfl | omega) | exact la_row rfl rfl | exact la_loc rfl rfl rfl (by first | rfl | simp [mkL_length]) (by first | rfl | simp) | exact la_nil rfl | apply la_fn rfl | exact lend_same rfl rfl | exact lend_bor rfl rfl)), ?_⟩; (conv => whnf)
  exact ⟨close_row rfl rfl (by simp) rfl, trivial⟩
end Go.Proofs.YtdbnppipgblajaaGreatDoor
