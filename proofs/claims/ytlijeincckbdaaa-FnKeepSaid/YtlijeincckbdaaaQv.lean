/- Words of 32 bits; SHA-256, as a plain Lean function. -/
import Derived.Test.YtlijeincckbdaaaQi
import Derived.Laws.Bits64
import Derived.Laws.BitsLemmas
import Derived.Test.YtlijeincckbdaaaQu
namespace Go.Proofs.Ytlijeincckbdaaa
open Go.RowKit
set_option linter.unusedSimpArgs false
set_option linter.unusedVariables false
theorem u32_lt (x : UInt32) : x.toNat < 4294967296 := x.toNat_lt
theorem u32_wrap_nat (n : Nat) : IntKind.u32.wrap (n : Int) = ((UInt32.ofNat n).toNat : Int) := by
  rw [IntKind.wrap_u32, UInt32.toNat_ofNat']; omega
theorem u32_wrap (x : UInt32) : IntKind.u32.wrap (x.toNat : Int) = (x.toNat : Int) := by
  rw [IntKind.wrap_u32]; have := u32_lt x; omega
theorem u32_add (x y : UInt32) : IntKind.u32.wrap ((x.toNat : Int) + (y.toNat : Int)) = ((x + y).toNat : Int) := by
  rw [IntKind.wrap_u32, UInt32.toNat_add]; omega
theorem ofInt_nat (n : Nat) {k : Nat} (h : n < 2 ^ k) : (BitVec.ofInt k (n : Int)).toNat = n := by
  rw [BitVec.ofInt_natCast, BitVec.toNat_ofNat]; exact Nat.mod_eq_of_lt h
theorem u32_xor (x y : UInt32) : bits .xor .u32 (x.toNat : Int) (y.toNat : Int) = ((x ^^^ y).toNat : Int) := by
  have hx := u32_lt x
  have hy := u32_lt y
  show IntKind.u32.wrap ((BitVec.ofInt 32 (x.toNat : Int) ^^^ BitVec.ofInt 32 (y.toNat : Int)).toNat : Int) = _
  rw [BitVec.toNat_xor, ofInt_nat _ hx, ofInt_nat _ hy, UInt32.toNat_xor, IntKind.wrap_u32]
  have := Nat.xor_lt_two_pow (n := 32) hx hy
  omega
theorem u32_or (x y : UInt32) : bits .or .u32 (x.toNat : Int) (y.toNat : Int) = ((x ||| y).toNat : Int) := by
  rw [(bits_nat .u32 32 (by decide) (fun n h h' => by rw [IntKind.wrap_u32]; omega) x.toNat y.toNat (u32_lt x) (u32_lt y)).2, UInt32.toNat_or]
theorem u32_and (x y : UInt32) : bits .and .u32 (x.toNat : Int) (y.toNat : Int) = ((x &&& y).toNat : Int) := by
  rw [(bits_nat .u32 32 (by decide) (fun n h h' => by rw [IntKind.wrap_u32]; omega) x.toNat y.toNat (u32_lt x) (u32_lt y)).1, UInt32.toNat_and]
theorem u32_not (x : UInt32) : bits .xor .u32 (IntKind.u32.max) (x.toNat : Int) = ((~~~x).toNat : Int) := by
  have e : IntKind.u32.max = ((4294967295 : UInt32).toNat : Int) := by decide
  rw [e, u32_xor]
  congr 2
theorem pow2_cast (k : Nat) : (2 : Int) ^ k = ((2 ^ k : Nat) : Int) := (Int.natCast_pow 2 k).symm
theorem u32_k {k : Nat} (hk : k < 32) : (UInt32.ofNat k).toNat % 32 = k := by rw [UInt32.toNat_ofNat']; omega
theorem u32_shr (x : UInt32) (k : Nat) (hk : k < 32) : (x.toNat : Int).fdiv (2 ^ k) = ((x >>> UInt32.ofNat k).toNat : Int) := by
  rw [UInt32.toNat_shiftRight, u32_k hk, Nat.shiftRight_eq_div_pow, pow2_cast, Int.fdiv_eq_ediv_of_nonneg _ (Int.natCast_nonneg _)]
  exact (Int.natCast_ediv _ _).symm
theorem u32_shl (x : UInt32) (k : Nat) (hk : k < 32) : IntKind.u32.wrap ((x.toNat : Int) * 2 ^ k) = ((x <<< UInt32.ofNat k).toNat : Int) := by
  rw [UInt32.toNat_shiftLeft, u32_k hk, Nat.shiftLeft_eq, IntKind.wrap_u32, pow2_cast]
  generalize 2 ^ k = q
  rw [← Int.natCast_mul]
  omega
theorem u8_u32 (x : UInt8) : IntKind.u32.wrap (x.toNat : Int) = (x.toUInt32.toNat : Int) := by
  rw [IntKind.wrap_u32, UInt8.toNat_toUInt32]
  have := x.toNat_lt
  omega
def turnW (x : UInt32) (k : Nat) : UInt32 := (x >>> UInt32.ofNat k) ||| (x <<< UInt32.ofNat (32 - k))
def sg0 (x : UInt32) : UInt32 := turnW x 7 ^^^ turnW x 18 ^^^ (x >>> UInt32.ofNat 3)
def sg1 (x : UInt32) : UInt32 := turnW x 17 ^^^ turnW x 19 ^^^ (x >>> UInt32.ofNat 10)
def bs0 (x : UInt32) : UInt32 := turnW x 2 ^^^ turnW x 13 ^^^ turnW x 22
def bs1 (x : UInt32) : UInt32 := turnW x 6 ^^^ turnW x 11 ^^^ turnW x 25
def chW (e f g : UInt32) : UInt32 := (e &&& f) ^^^ (~~~e &&& g)
def majW (a b c : UInt32) : UInt32 := (a &&& b) ^^^ (a &&& c) ^^^ (b &&& c)
def byteW (t : ByteArray) (i : Nat) : UInt32 := (t.data.toList.getD i 0).toUInt32
/-- Four bytes as a word. -/
def be32 (t : ByteArray) (i : Nat) : UInt32 := (byteW t i <<< UInt32.ofNat 24) ||| (byteW t (i + 1) <<< UInt32.ofNat 16) ||| (byteW t (i + 2) <<< UInt32.ofNat 8) ||| byteW t (i + 3)
/-- The words of a block. -/
def schedN (w : List UInt32) (t : ByteArray) (i : Nat) : UInt32 :=
  if i < 16 then be32 t (4 * i) else w.getD (i - 16) 0 + sg0 (w.getD (i - 15) 0) + w.getD (i - 7) 0 + sg1 (w.getD (i - 2) 0)
def sched (t : ByteArray) : Nat → List UInt32
  | 0 => []
  | i + 1 => sched t i ++ [schedN (sched t i) t i]
theorem sched_len (t : ByteArray) : ∀ n, (sched t n).length = n
  | 0 => rfl
  | n + 1 => by simp [sched, sched_len t n]
def keysL : List UInt32 := [
    0x428a2f98, 0x71374491, 0xb5c0fbcf, 0xe9b5dba5, 0x3956c25b, 0x59f111f1, 0x923f82a4, 0xab1c5ed5,
    0xd807aa98, 0x12835b01, 0x243185be, 0x550c7dc3, 0x72be5d74, 0x80deb1fe, 0x9bdc06a7, 0xc19bf174,
    0xe49b69c1, 0xefbe4786, 0x0fc19dc6, 0x240ca1cc, 0x2de92c6f, 0x4a7484aa, 0x5cb0a9dc, 0x76f988da,
    0x983e5152, 0xa831c66d, 0xb00327c8, 0xbf597fc7, 0xc6e00bf3, 0xd5a79147, 0x06ca6351, 0x14292967,
    0x27b70a85, 0x2e1b2138, 0x4d2c6dfc, 0x53380d13, 0x650a7354, 0x766a0abb, 0x81c2c92e, 0x92722c85,
    0xa2bfe8a1, 0xa81a664b, 0xc24b8b70, 0xc76c51a3, 0xd192e819, 0xd6990624, 0xf40e3585, 0x106aa070,
    0x19a4c116, 0x1e376c08, 0x2748774c, 0x34b0bcb5, 0x391c0cb3, 0x4ed8aa4a, 0x5b9cca4f, 0x682e6ff3,
    0x748f82ee, 0x78a5636f, 0x84c87814, 0x8cc70208, 0x90befffa, 0xa4506ceb, 0xbef9a3f7, 0xc67178f2]
def startL : List UInt32 := [0x6a09e667, 0xbb67ae85, 0x3c6ef372, 0xa54ff53a, 0x510e527f, 0x9b05688c, 0x1f83d9ab, 0x5be0cd19]
structure S8 where
  a : UInt32
  b : UInt32
  c : UInt32
  d : UInt32
  e : UInt32
  f : UInt32
  g : UInt32
  h : UInt32
def S8.of (l : List UInt32) : S8 := ⟨l.getD 0 0, l.getD 1 0, l.getD 2 0, l.getD 3 0, l.getD 4 0, l.getD 5 0, l.getD 6 0, l.getD 7 0⟩
def S8.list (s : S8) : List UInt32 := [s.a, s.b, s.c, s.d, s.e, s.f, s.g, s.h]
def rt1 (s : S8) (k w : UInt32) : UInt32 := s.h + bs1 s.e + chW s.e s.f s.g + k + w
def rt2 (s : S8) : UInt32 := bs0 s.a + majW s.a s.b s.c
def rnd (s : S8) (k w : UInt32) : S8 := ⟨rt1 s k w + rt2 s, s.a, s.b, s.c, s.d + rt1 s k w, s.e, s.f, s.g⟩
def rounds (W : List UInt32) (s : S8) : Nat → S8
  | 0 => s
  | i + 1 => rnd (rounds W s i) (keysL.getD i 0) (W.getD i 0)
def addW (st v : List UInt32) : List UInt32 := List.zipWith (· + ·) st v
/-- A state behind a block. -/
def block (st : List UInt32) (t : ByteArray) : List UInt32 := addW st (rounds (sched t 64) (S8.of st) 64).list
theorem block_len {st : List UInt32} (h : st.length = 8) (t : ByteArray) : (block st t).length = 8 := by
  simp [block, addW, S8.list, h]
def blocksN (st : List UInt32) (t : ByteArray) : Nat → List UInt32
  | 0 => st
  | n + 1 => block (blocksN st t n) (t.extract (64 * n) (64 * n + 64))
theorem blocksN_len {st : List UInt32} (h : st.length = 8) (t : ByteArray) : ∀ n, (blocksN st t n).length = 8
  | 0 => h
  | n + 1 => block_len (blocksN_len h t n) _
structure DHash where
  state : List UInt32
  rest : ByteArray
  size : Int
def DHash.enc (h : DHash) : List AV := [.row true 1 (h.state.map fun x => eInt (x.toNat : Int)), .lit (.string h.rest), .lit (.int .i64 h.size)]
def moreF (h : DHash) (t : ByteArray) : DHash :=
  ⟨blocksN h.state (h.rest ++ t) ((h.rest ++ t).size / 64), (h.rest ++ t).extract (64 * ((h.rest ++ t).size / 64)) (h.rest ++ t).size, h.size + (t.size : Int)⟩
def zerosL (n : Nat) : List UInt8 := List.replicate n 0
/-- The bytes of a number of 64 bits. -/
def be64 (n : Nat) : List UInt8 := [56, 48, 40, 32, 24, 16, 8, 0].map fun k => UInt8.ofNat (n >>> k)
def padL (r n : Nat) : List UInt8 := 128 :: zerosL ((119 - r) % 64) ++ be64 (8 * n)
def wordB (x : UInt32) : List UInt8 := [24, 16, 8, 0].map fun k => UInt8.ofNat (x.toNat >>> k)
def outL (l : List UInt32) : List UInt8 := (l.map wordB).flatten
def bytesOf (l : List UInt8) : ByteArray := ⟨l.toArray⟩
def endF (h : DHash) : ByteArray := bytesOf (outL (moreF h (bytesOf (padL h.rest.size h.size.toNat))).state)
def digF (t : ByteArray) : ByteArray := endF (moreF ⟨startL, .empty, 0⟩ t)
theorem flat_len (l : List (List UInt8)) (k : Nat) (h : ∀ x ∈ l, x.length = k) : l.flatten.length = k * l.length := by
  induction l with
  | nil => rfl
  | cons x l ih => simp [ih fun y hy => h y (by simp [hy]), h x (by simp), Nat.mul_add, Nat.add_comm]
theorem digF_size (t : ByteArray) : (digF t).size = 32 := by
  have h1 : (moreF ⟨startL, .empty, 0⟩ t).state.length = 8 := blocksN_len rfl _ _
  have h2 : ∀ b, (moreF (moreF ⟨startL, .empty, 0⟩ t) b).state.length = 8 := fun b => blocksN_len h1 _ _
  show (outL _).length = 32
  unfold outL
  rw [flat_len _ 4 (fun x hx => by obtain ⟨w, _, rfl⟩ := List.mem_map.1 hx; rfl), List.length_map, h2]
end Go.Proofs.Ytlijeincckbdaaa
namespace Go.Proofs.Ytlijeincckbdaaa
open Go.RowKit
set_option linter.unusedSimpArgs false
set_option linter.unusedVariables false
set_option maxRecDepth 100000
set_option maxHeartbeats 8000000
theorem l05Turn_c (x : UInt32) (k : Nat) (h0 : 0 < k) (h1 : k < 32) : Fun1 Try.prog 254 [.one (.lit (.int .u32 x.toNat)), .one (.lit (.int .u64 (k : Int)))] (.one (.lit (.int .u32 (turnW x k).toNat))) := by
  refine fun1_of_vc tb_ok mix (fn := Try.f254) Try.func254 rfl (by kernel_rfl) (by kernel_rfl) (by simp [Try.f254]) (by rfl) ?_
  (conv => whnf)
  refine ⟨by omega, ((x >>> UInt32.ofNat k).toNat : Int), by rw [← u32_shr x k h1]; congr 2; show k = min ((k : Int).toNat) 32; omega, ?_⟩; (conv => whnf)
  refine ⟨((32 - k : Nat) : Int), by rw [IntKind.wrap_u64]; omega, ?_⟩; (conv => whnf)
  refine ⟨by omega, ((x <<< UInt32.ofNat (32 - k)).toNat : Int), by rw [← u32_shl x (32 - k) (by omega)]; congr 3; show 32 - k = min (((32 - k : Nat) : Int).toNat) 32; omega, ?_⟩; (conv => whnf)
  exact ⟨close_int (u32_or _ _).symm, trivial⟩
def eW (x : UInt32) : List AV := [.lit (.int .u32 (x.toNat : Int))]
def eN (x : UInt32) : List AV := eInt (x.toNat : Int)
theorem l05Start_c : Fun1 Try.prog 242 [] (.one (.row true 1 (startL.map eN))) := by
  refine fun1_of_vc tb_ok mix (fn := Try.f242) Try.func242 rfl (by kernel_rfl) (by kernel_rfl) (by simp [Try.f242]) (by rfl) ?_
  (conv => whnf)
  exact ⟨close_row rfl rfl rfl rfl, trivial⟩
theorem l05Keys_c : Fun1 Try.prog 255 [] (.one (.row true 1 (keysL.map eW))) := by
  refine fun1_of_vc tb_ok mix (fn := Try.f255) Try.func255 rfl (by kernel_rfl) (by kernel_rfl) (by simp [Try.f255]) (by rfl) ?_
  (conv => whnf)
  exact ⟨close_row rfl rfl rfl rfl, trivial⟩
theorem hashBegin_c : Fun1 Try.prog 233 [] (.agg (DHash.enc ⟨startL, .empty, 0⟩)) := by
  refine fun1_of_vc tb_ok mix (fn := Try.f233) Try.func233 rfl (by kernel_rfl) (by kernel_rfl) (by simp [Try.f233]) (by rfl) ?_
  (conv => whnf)
  refine ⟨_, _, l05Start_c, (by repeat' (first | exact lends_nil | exact lend_dead | apply lends_cons | apply lend_agg | apply lend_one | exact all2_nil | apply all2_cons | exact la_lit rfl | exact la_int (by first | rfl | omega) | exact la_row rfl rfl | exact la_loc rfl rfl rfl (by first | rfl | simp [mkL_length]) (by first | rfl | simp) | exact la_nil rfl | apply la_fn rfl | exact lend_same rfl rfl | exact lend_bor rfl rfl)), ?_⟩; (conv => whnf)
  exact ⟨close_row rfl rfl rfl rfl, close_str rfl, close_int rfl, trivial⟩
theorem u32_not' (x : UInt32) : bits .xor .u32 (if IntKind.u32.signed = true then -1 else IntKind.u32.max) (x.toNat : Int) = ((~~~x).toNat : Int) := u32_not x
/-- The words that are made so far, and zeros behind them. -/
def wRow (w : List UInt32) : List UInt32 := w ++ List.replicate (64 - w.length) 0
theorem wRow_len {w : List UInt32} (h : w.length ≤ 64) : (wRow w).length = 64 := by simp [wRow]; omega
theorem wRow_set {w : List UInt32} (h : w.length < 64) (v : UInt32) : (wRow w).set w.length v = wRow (w ++ [v]) := by
  unfold wRow
  have e : 64 - w.length = (64 - (w ++ [v]).length) + 1 := by simp; omega
  rw [e, List.replicate_succ, List.append_assoc, List.set_append_right _ _ (by omega), Nat.sub_self]; rfl
theorem wRow_get {w : List UInt32} {j : Nat} (h : j < w.length) : (wRow w)[j]? = some (w.getD j 0) := by
  unfold wRow
  rw [List.getElem?_append_left h, List.getElem?_eq_getElem h, List.getD_eq_getElem?_getD, List.getElem?_eq_getElem h]; rfl
theorem wRow_at {w : List UInt32} {j : Nat} (h : j < w.length) : ((wRow w).map eW)[0 + j]? = some (eW (w.getD j 0)) := by
  rw [Nat.zero_add, List.getElem?_map, wRow_get h]; rfl
theorem wRow_in {w : List UInt32} {j : Nat} (h0 : w.length ≤ 64) (h : j < 64) : ∃ x, ((wRow w).map eW)[0 + j]? = some (eW x) := by
  rw [Nat.zero_add, List.getElem?_map, List.getElem?_eq_getElem (by rw [wRow_len h0]; exact h)]; exact ⟨_, rfl⟩
theorem wRow_store {w : List UInt32} (h : w.length < 64) {v : UInt32} {r : Int} (hr : r = (v.toNat : Int)) : (wRow (w ++ [v])).map eW = ((wRow w).map eW).set (0 + w.length) [.lit (.int .u32 r)] := by
  subst hr
  rw [Nat.zero_add, ← wRow_set h, List.map_set]; rfl
theorem l05Block_c (st : List UInt32) (hs : st.length = 8) (b : ByteArray) (hb : b.size = 64) : Fun1 Try.prog 241 [.one (.row true 1 (st.map eN)), .one (.lit (.string b))] (.one (.row true 1 ((block st b).map eN))) := by
  refine fun1_of_vc tb_ok mix (fn := Try.f241) Try.func241 rfl (by kernel_rfl) (by kernel_rfl) (by simp [Try.f241]) (by show AV.nb (4 + 1) _ = true; exact nb_map (n := 4) (fun y => rfl) _) ?_
  (conv => whnf)
  refine ⟨64, rfl, by decide, by decide, by decide, ?_⟩; (conv => whnf)
  refine ⟨LG (fun i : Nat => i ≤ 16) (fun i => 16 - i) (fun i => AS.of [(0, .one (.row true 1 (st.map eN))), (1, .one (.lit (.string b))), (5, .one (.loc 400 0 64)), (6, .one (.lit (.int .i64 (i : Nat))))] [(400, .row true 1 ((wRow (sched b i)).map eW))]), lg_init 0 (by omega) (weak_of (by repeat (first | refine all_cons (by first | rfl | exact eq_int rfl (by first | rfl | omega | (simp; done) | (simp; omega)) | exact eq_loc rfl (by first | rfl | omega | (simp; done) | (simp; omega)) | exact eq_bool rfl (by simp_all)) ?_ | exact all_nil)) (by repeat (first | refine all_cons (by first | rfl | exact eq_int rfl (by first | rfl | omega | (simp; done) | (simp; omega)) | exact eq_loc rfl (by first | rfl | omega | (simp; done) | (simp; omega)) | exact eq_bool rfl (by simp_all)) ?_ | exact all_nil)) rfl rfl), ?_⟩
  rintro σ k ⟨i, hi, rfl, rfl⟩
  refine ⟨_, Weak.refl _, ?_⟩
  (conv => whnf)
  (split <;> rename_i h <;> (try simp only [decide_eq_true_eq, decide_eq_false_iff_not, Bool.not_eq_true', Bool.not_eq_false', Bool.not_eq_true, Bool.not_eq_false, List.length_map] at h) <;> conv => whnf)
  · have hl := sched_len b i
    refine ⟨((4 * i : Nat) : Int), by rw [← wrap64_id] <;> omega, ?_⟩; (conv => whnf)
    refine ⟨4 * i, rfl, by omega, ?_⟩; (conv => whnf)
    refine ⟨((byteW b (4 * i)).toNat : Int), (u8_u32 _).symm, ?_⟩; (conv => whnf)
    refine ⟨by decide, _, (u32_shl _ 24 (by decide)).symm, ?_⟩; (conv => whnf)
    refine ⟨((4 * i : Nat) : Int), by rw [← wrap64_id] <;> omega, ?_⟩; (conv => whnf)
    refine ⟨((4 * i + 1 : Nat) : Int), by rw [← wrap64_id] <;> omega, ?_⟩; (conv => whnf)
    refine ⟨4 * i + 1, rfl, by omega, ?_⟩; (conv => whnf)
    refine ⟨((byteW b (4 * i + 1)).toNat : Int), (u8_u32 _).symm, ?_⟩; (conv => whnf)
    refine ⟨by decide, _, (u32_shl _ 16 (by decide)).symm, ?_⟩; (conv => whnf)
    refine ⟨((4 * i : Nat) : Int), by rw [← wrap64_id] <;> omega, ?_⟩; (conv => whnf)
    refine ⟨((4 * i + 2 : Nat) : Int), by rw [← wrap64_id] <;> omega, ?_⟩; (conv => whnf)
    refine ⟨4 * i + 2, rfl, by omega, ?_⟩; (conv => whnf)
    refine ⟨((byteW b (4 * i + 2)).toNat : Int), (u8_u32 _).symm, ?_⟩; (conv => whnf)
    refine ⟨by decide, _, (u32_shl _ 8 (by decide)).symm, ?_⟩; (conv => whnf)
    refine ⟨((4 * i : Nat) : Int), by rw [← wrap64_id] <;> omega, ?_⟩; (conv => whnf)
    refine ⟨((4 * i + 3 : Nat) : Int), by rw [← wrap64_id] <;> omega, ?_⟩; (conv => whnf)
    refine ⟨4 * i + 3, rfl, by omega, ?_⟩; (conv => whnf)
    refine ⟨((byteW b (4 * i + 3)).toNat : Int), (u8_u32 _).symm, ?_⟩; (conv => whnf)
    refine ⟨i, rfl, by omega, ?_⟩; (conv => whnf)
    obtain ⟨x0, hx0⟩ := wRow_in (w := sched b i) (by omega) (show i < 64 by omega)
    refine ⟨_, hx0, ?_⟩; (conv => whnf)
    have hi16 : i < 16 := by omega
    refine ⟨(wRow (sched b (i + 1))).map eW, by
      have := wRow_store (w := sched b i) (by omega) (v := be32 b (4 * i)) (show bits .or .u32 (bits .or .u32 (bits .or .u32 ((byteW b (4 * i) <<< UInt32.ofNat 24).toNat : Int) ((byteW b (4 * i + 1) <<< UInt32.ofNat 16).toNat : Int)) ((byteW b (4 * i + 2) <<< UInt32.ofNat 8).toNat : Int)) ((byteW b (4 * i + 3)).toNat : Int) = ((be32 b (4 * i)).toNat : Int) by simp only [u32_or]; rfl)
      rw [hl] at this
      rw [show sched b (i + 1) = sched b i ++ [be32 b (4 * i)] by simp only [sched, schedN, hl, if_pos hi16]]
      exact this, ?_⟩; (conv => whnf)
    (refine ⟨((i + 1 : Nat) : Int), by rw [← wrap64_id] <;> omega, ?_⟩; conv => whnf)
    exact lg_back (i + 1) (by omega) (by (try dsimp only); omega) (weak_of (by repeat (first | refine all_cons (by first | rfl | exact eq_int rfl (by first | rfl | omega | (simp; done) | (simp; omega)) | exact eq_loc rfl (by first | rfl | omega | (simp; done) | (simp; omega)) | exact eq_bool rfl (by simp_all)) ?_ | exact all_nil)) (by repeat (first | refine all_cons (by first | rfl | exact eq_int rfl (by first | rfl | omega | (simp; done) | (simp; omega)) | exact eq_loc rfl (by first | rfl | omega | (simp; done) | (simp; omega)) | exact eq_bool rfl (by simp_all)) ?_ | exact all_nil)) rfl rfl)
  · have : i = 16 := by omega
    subst this
    refine ⟨LG (fun i : Nat => 16 ≤ i ∧ i ≤ 64) (fun i => 64 - i) (fun i => AS.of [(0, .one (.row true 1 (st.map eN))), (5, .one (.loc 400 0 64)), (7, .one (.lit (.int .i64 (i : Nat))))] [(400, .row true 1 ((wRow (sched b i)).map eW))]), lg_init 16 (by omega) (weak_of (by repeat (first | refine all_cons (by first | rfl | exact eq_int rfl (by first | rfl | omega | (simp; done) | (simp; omega)) | exact eq_loc rfl (by first | rfl | omega | (simp; done) | (simp; omega)) | exact eq_bool rfl (by simp_all)) ?_ | exact all_nil)) (by repeat (first | refine all_cons (by first | rfl | exact eq_int rfl (by first | rfl | omega | (simp; done) | (simp; omega)) | exact eq_loc rfl (by first | rfl | omega | (simp; done) | (simp; omega)) | exact eq_bool rfl (by simp_all)) ?_ | exact all_nil)) rfl rfl), ?_⟩
    rintro σ k ⟨i, ⟨hi0, hi⟩, rfl, rfl⟩
    refine ⟨_, Weak.refl _, ?_⟩
    (conv => whnf)
    (split <;> rename_i h2 <;> (try simp only [decide_eq_true_eq, decide_eq_false_iff_not, Bool.not_eq_true', Bool.not_eq_false', Bool.not_eq_true, Bool.not_eq_false, List.length_map] at h2) <;> conv => whnf)
    · have hl := sched_len b i
      obtain ⟨w, hw⟩ : ∃ w, sched b i = w := ⟨_, rfl⟩
      simp only [hw] at hl ⊢
      have hsc : sched b (i + 1) = w ++ [w.getD (i - 16) 0 + sg0 (w.getD (i - 15) 0) + w.getD (i - 7) 0 + sg1 (w.getD (i - 2) 0)] := by
        simp only [sched, schedN, hw, if_neg (show ¬ i < 16 by omega)]
      refine ⟨((i - 15 : Nat) : Int), by rw [← wrap64_id] <;> omega, ?_⟩; (conv => whnf)
      refine ⟨i - 15, rfl, by omega, ?_⟩; (conv => whnf)
      refine ⟨_, wRow_at (w := w) (j := i - 15) (by omega), ?_⟩; (conv => whnf)
      refine ⟨((i - 2 : Nat) : Int), by rw [← wrap64_id] <;> omega, ?_⟩; (conv => whnf)
      refine ⟨i - 2, rfl, by omega, ?_⟩; (conv => whnf)
      refine ⟨_, wRow_at (w := w) (j := i - 2) (by omega), ?_⟩; (conv => whnf)
      obtain ⟨x, hx⟩ : ∃ x, w.getD (i - 15) 0 = x := ⟨_, rfl⟩
      obtain ⟨y, hy⟩ : ∃ y, w.getD (i - 2) 0 = y := ⟨_, rfl⟩
      simp only [hx, hy] at hsc ⊢
      refine ⟨((i - 16 : Nat) : Int), by rw [← wrap64_id] <;> omega, ?_⟩; (conv => whnf)
      refine ⟨i - 16, rfl, by omega, ?_⟩; (conv => whnf)
      refine ⟨_, wRow_at (w := w) (j := i - 16) (by omega), ?_⟩; (conv => whnf)
      refine ⟨_, _, l05Turn_c x 7 (by decide) (by decide), (by repeat' (first | exact lends_nil | exact lend_dead | apply lends_cons | apply lend_agg | apply lend_one | exact all2_nil | apply all2_cons | exact la_lit rfl | exact la_int (by first | rfl | omega) | exact la_row rfl rfl | exact la_loc rfl rfl rfl (by first | rfl | simp [mkL_length]) (by first | rfl | simp) | exact la_nil rfl | apply la_fn rfl | exact lend_same rfl rfl | exact lend_bor rfl rfl)), ?_⟩; (conv => whnf)
      refine ⟨_, _, l05Turn_c x 18 (by decide) (by decide), (by repeat' (first | exact lends_nil | exact lend_dead | apply lends_cons | apply lend_agg | apply lend_one | exact all2_nil | apply all2_cons | exact la_lit rfl | exact la_int (by first | rfl | omega) | exact la_row rfl rfl | exact la_loc rfl rfl rfl (by first | rfl | simp [mkL_length]) (by first | rfl | simp) | exact la_nil rfl | apply la_fn rfl | exact lend_same rfl rfl | exact lend_bor rfl rfl)), ?_⟩; (conv => whnf)
      refine ⟨by decide, _, (u32_shr x 3 (by decide)).symm, ?_⟩; (conv => whnf)
      refine ⟨((w.getD (i - 16) 0 + sg0 x).toNat : Int), by rw [← u32_add]; simp only [u32_xor, sg0], ?_⟩; (conv => whnf)
      refine ⟨((i - 7 : Nat) : Int), by rw [← wrap64_id] <;> omega, ?_⟩; (conv => whnf)
      refine ⟨i - 7, rfl, by omega, ?_⟩; (conv => whnf)
      refine ⟨_, wRow_at (w := w) (j := i - 7) (by omega), ?_⟩; (conv => whnf)
      refine ⟨_, (u32_add _ _).symm, ?_⟩; (conv => whnf)
      refine ⟨_, _, l05Turn_c y 17 (by decide) (by decide), (by repeat' (first | exact lends_nil | exact lend_dead | apply lends_cons | apply lend_agg | apply lend_one | exact all2_nil | apply all2_cons | exact la_lit rfl | exact la_int (by first | rfl | omega) | exact la_row rfl rfl | exact la_loc rfl rfl rfl (by first | rfl | simp [mkL_length]) (by first | rfl | simp) | exact la_nil rfl | apply la_fn rfl | exact lend_same rfl rfl | exact lend_bor rfl rfl)), ?_⟩; (conv => whnf)
      refine ⟨_, _, l05Turn_c y 19 (by decide) (by decide), (by repeat' (first | exact lends_nil | exact lend_dead | apply lends_cons | apply lend_agg | apply lend_one | exact all2_nil | apply all2_cons | exact la_lit rfl | exact la_int (by first | rfl | omega) | exact la_row rfl rfl | exact la_loc rfl rfl rfl (by first | rfl | simp [mkL_length]) (by first | rfl | simp) | exact la_nil rfl | apply la_fn rfl | exact lend_same rfl rfl | exact lend_bor rfl rfl)), ?_⟩; (conv => whnf)
      refine ⟨by decide, _, (u32_shr y 10 (by decide)).symm, ?_⟩; (conv => whnf)
      refine ⟨((w.getD (i - 16) 0 + sg0 x + w.getD (i - 7) 0 + sg1 y).toNat : Int), by rw [← u32_add (_ + _)]; simp only [u32_xor, sg1], ?_⟩; (conv => whnf)
      refine ⟨i, rfl, by omega, ?_⟩; (conv => whnf)
      obtain ⟨x0, hx0⟩ := wRow_in (w := w) (by omega) (show i < 64 by omega)
      refine ⟨_, hx0, ?_⟩; (conv => whnf)
      refine ⟨(wRow (sched b (i + 1))).map eW, by
        have := wRow_store (w := w) (by omega) (v := w.getD (i - 16) 0 + sg0 x + w.getD (i - 7) 0 + sg1 y) rfl
        rw [hl] at this
        rw [hsc]
        exact this, ?_⟩; (conv => whnf)
      (refine ⟨((i + 1 : Nat) : Int), by rw [← wrap64_id] <;> omega, ?_⟩; conv => whnf)
      exact lg_back (i + 1) (by omega) (by (try dsimp only); omega) (weak_of (by repeat (first | refine all_cons (by first | rfl | exact eq_int rfl (by first | rfl | omega | (simp; done) | (simp; omega)) | exact eq_loc rfl (by first | rfl | omega | (simp; done) | (simp; omega)) | exact eq_bool rfl (by simp_all)) ?_ | exact all_nil)) (by repeat (first | refine all_cons (by first | rfl | exact eq_int rfl (by first | rfl | omega | (simp; done) | (simp; omega)) | exact eq_loc rfl (by first | rfl | omega | (simp; done) | (simp; omega)) | exact eq_bool rfl (by simp_all)) ?_ | exact all_nil)) rfl rfl)
    · have : i = 64 := by omega
      subst this
      obtain ⟨W, hW⟩ : ∃ W, sched b 64 = W := ⟨_, rfl⟩
      have hWl : W.length = 64 := by rw [← hW]; exact sched_len b 64
      have hblk : block st b = addW st (rounds W (S8.of st) 64).list := by unfold block; rw [hW]
      rw [hblk]
      simp only [hW]
      clear hblk hW
      match st, hs with
      | [s0, s1, s2, s3, s4, s5, s6, s7], _ => ?_
      refine ⟨0, rfl, _, rfl, ?_⟩; (conv => whnf)
      refine ⟨(s0.toNat : Int), (u32_wrap s0).symm, ?_⟩; (conv => whnf)
      refine ⟨1, rfl, _, rfl, ?_⟩; (conv => whnf)
      refine ⟨(s1.toNat : Int), (u32_wrap s1).symm, ?_⟩; (conv => whnf)
      refine ⟨2, rfl, _, rfl, ?_⟩; (conv => whnf)
      refine ⟨(s2.toNat : Int), (u32_wrap s2).symm, ?_⟩; (conv => whnf)
      refine ⟨3, rfl, _, rfl, ?_⟩; (conv => whnf)
      refine ⟨(s3.toNat : Int), (u32_wrap s3).symm, ?_⟩; (conv => whnf)
      refine ⟨4, rfl, _, rfl, ?_⟩; (conv => whnf)
      refine ⟨(s4.toNat : Int), (u32_wrap s4).symm, ?_⟩; (conv => whnf)
      refine ⟨5, rfl, _, rfl, ?_⟩; (conv => whnf)
      refine ⟨(s5.toNat : Int), (u32_wrap s5).symm, ?_⟩; (conv => whnf)
      refine ⟨6, rfl, _, rfl, ?_⟩; (conv => whnf)
      refine ⟨(s6.toNat : Int), (u32_wrap s6).symm, ?_⟩; (conv => whnf)
      refine ⟨7, rfl, _, rfl, ?_⟩; (conv => whnf)
      refine ⟨(s7.toNat : Int), (u32_wrap s7).symm, ?_⟩; (conv => whnf)
      have cK := l05Keys_c
      have hRs : ∀ i, rounds W (S8.of [s0, s1, s2, s3, s4, s5, s6, s7]) (i + 1) = rnd (rounds W (S8.of [s0, s1, s2, s3, s4, s5, s6, s7]) i) (keysL.getD i 0) (W.getD i 0) := fun i => rfl
      have hKl : keysL.length = 64 := rfl
      have hR0 : rounds W (S8.of [s0, s1, s2, s3, s4, s5, s6, s7]) 0 = ⟨s0, s1, s2, s3, s4, s5, s6, s7⟩ := rfl
      generalize rounds W (S8.of [s0, s1, s2, s3, s4, s5, s6, s7]) = RR at hRs hR0 ⊢
      generalize keysL = K at cK hRs hKl
      refine ⟨_, _, cK, (by repeat' (first | exact lends_nil | exact lend_dead | apply lends_cons | apply lend_agg | apply lend_one | exact all2_nil | apply all2_cons | exact la_lit rfl | exact la_int (by first | rfl | omega) | exact la_row rfl rfl | exact la_loc rfl rfl rfl (by first | rfl | simp [mkL_length]) (by first | rfl | simp) | exact la_nil rfl | apply la_fn rfl | exact lend_same rfl rfl | exact lend_bor rfl rfl)), ?_⟩; (conv => whnf)
      refine ⟨LG (fun p : Nat × S8 => p.1 ≤ 64 ∧ p.2 = RR p.1) (fun p => 64 - p.1) (fun p => AS.of [(0, .one (.row true 1 ([s0, s1, s2, s3, s4, s5, s6, s7].map eN))), (5, .one (.loc 400 0 64)),
          (10, .one (.lit (.int .u32 p.2.a.toNat))), (11, .one (.lit (.int .u32 p.2.b.toNat))), (12, .one (.lit (.int .u32 p.2.c.toNat))), (13, .one (.lit (.int .u32 p.2.d.toNat))),
          (14, .one (.lit (.int .u32 p.2.e.toNat))), (15, .one (.lit (.int .u32 p.2.f.toNat))), (16, .one (.lit (.int .u32 p.2.g.toNat))), (17, .one (.lit (.int .u32 p.2.h.toNat))),
          (18, .one (.loc 2240 0 64)), (19, .one (.lit (.int .i64 (p.1 : Nat))))] [(400, .row true 1 ((wRow W).map eW)), (2240, .row true 1 (K.map eW))]), lg_init (0, ⟨s0, s1, s2, s3, s4, s5, s6, s7⟩) ⟨by omega, hR0.symm⟩ (weak_of (all_cons rfl (all_cons rfl (all_cons rfl (all_cons rfl (all_cons rfl (all_cons rfl (all_cons rfl (all_cons rfl (all_cons rfl (all_cons rfl (all_cons (eq_loc rfl (by simp [hKl])) (all_cons rfl all_nil)))))))))))) (by repeat (first | refine all_cons (by first | rfl | exact eq_int rfl (by first | rfl | omega | (simp; done) | (simp; omega)) | exact eq_loc rfl (by first | rfl | omega | (simp; done) | (simp; omega)) | exact eq_bool rfl (by simp_all)) ?_ | exact all_nil)) rfl rfl), ?_⟩
      rintro σ k ⟨⟨i, s⟩, ⟨hi, hS⟩, rfl, rfl⟩
      simp only at hi hS ⊢
      refine ⟨_, Weak.refl _, ?_⟩
      (conv => whnf)
      (split <;> rename_i h3 <;> (try simp only [decide_eq_true_eq, decide_eq_false_iff_not, Bool.not_eq_true', Bool.not_eq_false', Bool.not_eq_true, Bool.not_eq_false, List.length_map] at h3) <;> conv => whnf)
      · have hsc := hRs i
        rw [← hS] at hsc
        obtain ⟨a, b1, c, d, e, f, g, h⟩ := s
        dsimp only
        refine ⟨_, _, l05Turn_c e 6 (by decide) (by decide), (by repeat' (first | exact lends_nil | exact lend_dead | apply lends_cons | apply lend_agg | apply lend_one | exact all2_nil | apply all2_cons | exact la_lit rfl | exact la_int (by first | rfl | omega) | exact la_row rfl rfl | exact la_loc rfl rfl rfl (by first | rfl | simp [mkL_length]) (by first | rfl | simp) | exact la_nil rfl | apply la_fn rfl | exact lend_same rfl rfl | exact lend_bor rfl rfl)), ?_⟩; (conv => whnf)
        refine ⟨_, _, l05Turn_c e 11 (by decide) (by decide), (by repeat' (first | exact lends_nil | exact lend_dead | apply lends_cons | apply lend_agg | apply lend_one | exact all2_nil | apply all2_cons | exact la_lit rfl | exact la_int (by first | rfl | omega) | exact la_row rfl rfl | exact la_loc rfl rfl rfl (by first | rfl | simp [mkL_length]) (by first | rfl | simp) | exact la_nil rfl | apply la_fn rfl | exact lend_same rfl rfl | exact lend_bor rfl rfl)), ?_⟩; (conv => whnf)
        refine ⟨_, _, l05Turn_c e 25 (by decide) (by decide), (by repeat' (first | exact lends_nil | exact lend_dead | apply lends_cons | apply lend_agg | apply lend_one | exact all2_nil | apply all2_cons | exact la_lit rfl | exact la_int (by first | rfl | omega) | exact la_row rfl rfl | exact la_loc rfl rfl rfl (by first | rfl | simp [mkL_length]) (by first | rfl | simp) | exact la_nil rfl | apply la_fn rfl | exact lend_same rfl rfl | exact lend_bor rfl rfl)), ?_⟩; (conv => whnf)
        refine ⟨((h + bs1 e).toNat : Int), by rw [← u32_add]; simp only [u32_xor, bs1], ?_⟩; (conv => whnf)
        refine ⟨((h + bs1 e + chW e f g).toNat : Int), by rw [← u32_add (_ + _)]; simp only [u32_xor, u32_and, u32_not', chW], ?_⟩; (conv => whnf)
        refine ⟨i, rfl, by omega, ?_⟩; (conv => whnf)
        refine ⟨eW (K.getD i 0), by
          have hk : i < K.length := by omega
          rw [Nat.zero_add, List.getElem?_map, List.getD_eq_getElem?_getD, List.getElem?_eq_getElem hk]; rfl, ?_⟩; (conv => whnf)
        refine ⟨_, (u32_add _ _).symm, ?_⟩; (conv => whnf)
        refine ⟨i, rfl, by omega, ?_⟩; (conv => whnf)
        refine ⟨_, wRow_at (w := W) (j := i) (by omega), ?_⟩; (conv => whnf)
        refine ⟨_, (u32_add _ _).symm, ?_⟩; (conv => whnf)
        refine ⟨_, _, l05Turn_c a 2 (by decide) (by decide), (by repeat' (first | exact lends_nil | exact lend_dead | apply lends_cons | apply lend_agg | apply lend_one | exact all2_nil | apply all2_cons | exact la_lit rfl | exact la_int (by first | rfl | omega) | exact la_row rfl rfl | exact la_loc rfl rfl rfl (by first | rfl | simp [mkL_length]) (by first | rfl | simp) | exact la_nil rfl | apply la_fn rfl | exact lend_same rfl rfl | exact lend_bor rfl rfl)), ?_⟩; (conv => whnf)
        refine ⟨_, _, l05Turn_c a 13 (by decide) (by decide), (by repeat' (first | exact lends_nil | exact lend_dead | apply lends_cons | apply lend_agg | apply lend_one | exact all2_nil | apply all2_cons | exact la_lit rfl | exact la_int (by first | rfl | omega) | exact la_row rfl rfl | exact la_loc rfl rfl rfl (by first | rfl | simp [mkL_length]) (by first | rfl | simp) | exact la_nil rfl | apply la_fn rfl | exact lend_same rfl rfl | exact lend_bor rfl rfl)), ?_⟩; (conv => whnf)
        refine ⟨_, _, l05Turn_c a 22 (by decide) (by decide), (by repeat' (first | exact lends_nil | exact lend_dead | apply lends_cons | apply lend_agg | apply lend_one | exact all2_nil | apply all2_cons | exact la_lit rfl | exact la_int (by first | rfl | omega) | exact la_row rfl rfl | exact la_loc rfl rfl rfl (by first | rfl | simp [mkL_length]) (by first | rfl | simp) | exact la_nil rfl | apply la_fn rfl | exact lend_same rfl rfl | exact lend_bor rfl rfl)), ?_⟩; (conv => whnf)
        refine ⟨((bs0 a + majW a b1 c).toNat : Int), by rw [← u32_add]; simp only [u32_xor, u32_and, bs0, majW], ?_⟩; (conv => whnf)
        refine ⟨_, (u32_add _ _).symm, ?_⟩; (conv => whnf)
        refine ⟨_, (u32_add _ _).symm, ?_⟩; (conv => whnf)
        (refine ⟨((i + 1 : Nat) : Int), by rw [← wrap64_id] <;> omega, ?_⟩; conv => whnf)
        exact lg_back ((i + 1, rnd ⟨a, b1, c, d, e, f, g, h⟩ (K.getD i 0) (W.getD i 0)) : Nat × S8) ⟨by show i + 1 ≤ 64; omega, hsc.symm⟩ (by (try dsimp only); omega) (weak_of (by repeat (first | refine all_cons (by first | rfl | exact eq_int rfl (by first | rfl | omega | (simp; done) | (simp; omega)) | exact eq_loc rfl (by first | rfl | omega | (simp; done) | (simp; omega)) | exact eq_bool rfl (by simp_all)) ?_ | exact all_nil)) (by repeat (first | refine all_cons (by first | rfl | exact eq_int rfl (by first | rfl | omega | (simp; done) | (simp; omega)) | exact eq_loc rfl (by first | rfl | omega | (simp; done) | (simp; omega)) | exact eq_bool rfl (by simp_all)) ?_ | exact all_nil)) rfl rfl)
      · have : i = 64 := by omega
        subst this
        rw [← hS]
        obtain ⟨a, b1, c, d, e, f, g, h⟩ := s
        dsimp only
        (conv => whnf)
        refine ⟨LG (fun i : Nat => i ≤ 8) (fun i => 8 - i) (fun i => AS.of [(0, .one (.row true 1 ([s0, s1, s2, s3, s4, s5, s6, s7].map eN))), (22, .one (.loc 3424 0 8)), (23, .one (.loc 3440 0 i)), (24, .one (.lit (.int .i64 (i : Nat))))]
          [(3424, .row true 1 ([a, b1, c, d, e, f, g, h].map eW)), (3440, .row true 1 (((addW [s0, s1, s2, s3, s4, s5, s6, s7] [a, b1, c, d, e, f, g, h]).take i).map eN))]), lg_init 0 (by omega) (weak_of (by repeat (first | refine all_cons (by first | rfl | exact eq_int rfl (by first | rfl | omega | (simp; done) | (simp; omega)) | exact eq_loc rfl (by first | rfl | omega | (simp; done) | (simp; omega)) | exact eq_bool rfl (by simp_all)) ?_ | exact all_nil)) (by repeat (first | refine all_cons (by first | rfl | exact eq_int rfl (by first | rfl | omega | (simp; done) | (simp; omega)) | exact eq_loc rfl (by first | rfl | omega | (simp; done) | (simp; omega)) | exact eq_bool rfl (by simp_all)) ?_ | exact all_nil)) rfl rfl), ?_⟩
        have e0 : (S8.mk a b1 c d e f g h).list = [a, b1, c, d, e, f, g, h] := rfl
        rw [e0]
        have hLl : [s0, s1, s2, s3, s4, s5, s6, s7].length = 8 := rfl
        have hVl : [a, b1, c, d, e, f, g, h].length = 8 := rfl
        generalize [s0, s1, s2, s3, s4, s5, s6, s7] = L at hLl ⊢
        generalize [a, b1, c, d, e, f, g, h] = V at hVl ⊢
        have hAl : (addW L V).length = 8 := by simp [addW, hLl, hVl]
        rintro σ k ⟨i, hi, rfl, rfl⟩
        refine ⟨_, Weak.refl _, ?_⟩
        (conv => whnf)
        (split <;> rename_i h4 <;> (try simp only [decide_eq_true_eq, decide_eq_false_iff_not, Bool.not_eq_true', Bool.not_eq_false', Bool.not_eq_true, Bool.not_eq_false, List.length_map] at h4) <;> conv => whnf)
        · have hiL : i < L.length := by omega
          have hiV : i < V.length := by omega
          have hsx : (addW L V).take (i + 1) = (addW L V).take i ++ [L[i] + V[i]] := by
            rw [List.take_succ_eq_append_getElem (by omega)]; simp [addW]
          refine ⟨i, rfl, _, at_map hiL, ?_⟩; (conv => whnf)
          refine ⟨(L[i].toNat : Int), (u32_wrap _).symm, ?_⟩; (conv => whnf)
          refine ⟨i, rfl, by omega, ?_⟩; (conv => whnf)
          refine ⟨_, at_map0 hiV, ?_⟩; (conv => whnf)
          refine ⟨_, (u32_add _ _).symm, ?_⟩; (conv => whnf)
          have hlt := u32_lt (L[i] + V[i])
          refine ⟨((L[i] + V[i]).toNat : Int), by rw [← wrap64_id] <;> omega, ?_⟩; (conv => whnf)
          refine ⟨true, [eN (L[i] + V[i])], ⟨rfl, by first | (simp [chunk]; done) | (simp [chunk, hAl]; done) | (simp [chunk, hAl]; omega), rfl, by simp [chunk]; rfl⟩, ?_⟩; (conv => whnf)
          refine ⟨[eN (L[i] + V[i])], laid_map (f := eN) (fun _ => rfl) [L[i] + V[i]], rfl, by first | (simp [chunk]; done) | (simp [chunk, hAl]; done) | (simp [chunk, hAl]; omega), rfl, by simp [maxLen, chunk]; omega, by simp [chunk]; omega, ?_⟩; (conv => whnf)
          (refine ⟨((i + 1 : Nat) : Int), by rw [← wrap64_id] <;> omega, ?_⟩; conv => whnf)
          exact lg_back (i + 1) (by omega) (by (try dsimp only); omega) (weak_of (all_cons rfl (all_cons rfl (all_cons (eq_loc rfl (by first | (simp [chunk, hAl]; done) | (simp [chunk, hAl]; omega))) (all_cons rfl all_nil)))) (all_cons rfl (all_cons (eq_row rfl (by rw [hsx]; simp [chunk])) all_nil)) rfl rfl)
        · have : i = 8 := by omega
          subst this
          have : (addW L V).take 8 = addW L V := List.take_of_length_le (by omega)
          exact ⟨close_row rfl rfl (by simp [hAl]) (by rw [this]), trivial⟩
end Go.Proofs.Ytlijeincckbdaaa
