/- Contracts (reference): a text's digest. -/
import Derived.Test.YtlijeincckbdaaaQv
import Derived.Test.YtlijeincckbdaaaQk
import Derived.Test.YtlijeincckbdaaaQt
namespace Go.Proofs.Ytlijeincckbdaaa
open Go.RowKit
set_option linter.unusedSimpArgs false
set_option linter.unusedVariables false
set_option maxRecDepth 100000
set_option maxHeartbeats 8000000
def noHash : DHash := ⟨[], .empty, 0⟩
theorem eN_nb (l : List UInt32) : (AV.row true 1 (l.map eN)).nb 5 = true := by show AV.nb (4 + 1) _ = true; exact nb_map (n := 4) (fun y => rfl) _
theorem DHash.enc_nb (h : DHash) : h.enc.all (AV.nb 5) = true := by
  simp only [DHash.enc, List.all_cons, List.all_nil, Bool.and_true, Bool.and_eq_true]
  exact ⟨eN_nb _, rfl, rfl⟩
theorem l05More_c (h : DHash) (hs : h.state.length = 8) (hsz : 0 ≤ h.size ∧ h.size ≤ 4611686018427387904) (hr : h.rest.size ≤ 4611686018427387904) (t : ByteArray) (ht : t.size ≤ 2305843009213693952) :
    Fun1 Try.prog 232 [.agg h.enc, .one (.lit (.string t))] (.agg (moreF h t).enc) := by
  refine fun1_of_vc (E := tbO232) (tbF_ok _) mix (fn := Try.f232) Try.func232 rfl (by kernel_rfl) (by kernel_rfl) (by simp [Try.f232]) (by exact DHash.enc_nb _) ?_
  (conv => whnf)
  refine ⟨true, _, ⟨rfl, rfl, rfl⟩, ?_⟩; (conv => whnf)
  refine ⟨_, laid_map (f := eN) (fun _ => rfl) h.state, rfl, rfl, rfl, by simp [maxLen, chunk]; omega, by simp [chunk]; omega, ?_⟩; (conv => whnf)
  refine ⟨by omega, ?_⟩; (conv => whnf)
  refine ⟨h.size + (t.size : Int), by rw [← wrap64_id] <;> omega, ?_⟩; (conv => whnf)
  obtain ⟨X, hX⟩ : ∃ X, h.rest ++ t = X := ⟨_, rfl⟩
  have hXs : X.size = h.rest.size + t.size := by rw [← hX]; simp
  have hmore : moreF h t = ⟨blocksN h.state X (X.size / 64), X.extract (64 * (X.size / 64)) X.size, h.size + (t.size : Int)⟩ := by unfold moreF; rw [hX]
  rw [hmore]
  simp only [hX]
  refine ⟨LG (fun n : Nat => n ≤ X.size / 64) (fun n => X.size / 64 - n) (fun n => AS.of [(4, .one (.ptr 64 0)), (5, .one (.ptr 80 0)), (6, .one (.lit (.int .i64 ((64 * n : Nat) : Int))))]
    [(64, .var [.lit (.slice none 0 0), .lit (.string .empty), .lit (.int .i64 0)]), (80, .var [.loc 112 0 8, .lit (.string X), .lit (.int .i64 (h.size + (t.size : Int)))]), (112, .row true 1 ((blocksN h.state X n).map eN))]), lg_init 0 (by omega) (weak_of (by repeat (first | refine all_cons (by first | rfl | exact eq_int rfl (by first | rfl | omega | (simp; done) | (simp; omega)) | exact eq_loc rfl (by first | rfl | omega | (simp; done) | (simp; omega)) | exact eq_bool rfl (by simp_all)) ?_ | exact all_nil)) (all_cons rfl (all_cons (eq_var rfl (by simp [chunk, hs, AV.bor, siteOf])) (all_cons rfl all_nil))) rfl rfl), ?_⟩
  rintro σ k ⟨n, hn, rfl, rfl⟩
  have hbl := blocksN_len hs X n
  refine ⟨_, Weak.refl _, ?_⟩
  (conv => whnf)
  refine ⟨(X.size : Int) - ((64 * n : Nat) : Int), by rw [← wrap64_id] <;> omega, ?_⟩; (conv => whnf)
  (split <;> rename_i h1 <;> (try simp only [decide_eq_true_eq, decide_eq_false_iff_not, Bool.not_eq_true', Bool.not_eq_false', Bool.not_eq_true, Bool.not_eq_false, List.length_map] at h1) <;> conv => whnf)
  · have hlt : n < X.size / 64 := by omega
    refine ⟨((64 * n + 64 : Nat) : Int), by rw [← wrap64_id] <;> omega, ?_⟩; (conv => whnf)
    refine ⟨by show (0 : Int) ≤ ((64 * n : Nat) : Int); omega, by show ((64 * n : Nat) : Int) ≤ ((64 * n + 64 : Nat) : Int); omega, by show ((64 * n + 64 : Nat) : Int) ≤ (X.size : Int); omega, X.extract (64 * n) (64 * n + 64), rfl, ?_⟩; (conv => whnf)
    refine ⟨_, _, l05Block_c (blocksN h.state X n) hbl (X.extract (64 * n) (64 * n + 64)) (by rw [ByteArray.size_extract]; omega), lends_cons (lend_one (la_loc rfl rfl rfl (by simp [hbl]) (by simp [hbl]))) (lends_cons (lend_one (la_lit rfl)) lends_nil), ?_⟩; (conv => whnf)
    refine ⟨((64 * (n + 1) : Nat) : Int), by rw [← wrap64_id] <;> omega, ?_⟩; (conv => whnf)
    exact lg_back (n + 1) (by omega) (by (try dsimp only); omega) (weak_swap 112 592 (weak_of (by repeat (first | refine all_cons (by first | rfl | exact eq_int rfl (by first | rfl | omega | (simp; done) | (simp; omega)) | exact eq_loc rfl (by first | rfl | omega | (simp; done) | (simp; omega)) | exact eq_bool rfl (by simp_all)) ?_ | exact all_nil)) (all_cons rfl (all_cons (eq_var rfl (by simp [openAV, block_len hbl, AV.ren, swp, siteOf])) (all_cons rfl all_nil))) rfl rfl))
  · have : n = X.size / 64 := by omega
    subst this
    refine ⟨by show (0 : Int) ≤ ((64 * (X.size / 64) : Nat) : Int); omega, by show ((64 * (X.size / 64) : Nat) : Int) ≤ (X.size : Int); omega, by show (X.size : Int) ≤ (X.size : Int); omega, X.extract (64 * (X.size / 64)) X.size, by congr 1, ?_⟩; (conv => whnf)
    exact ⟨close_row rfl rfl (by simp [hbl]) rfl, close_str rfl, close_int rfl, trivial⟩
end Go.Proofs.Ytlijeincckbdaaa
namespace Go.Proofs.Ytlijeincckbdaaa
open Go.RowKit
set_option linter.unusedSimpArgs false
set_option linter.unusedVariables false
set_option maxRecDepth 100000
set_option maxHeartbeats 8000000
theorem u8_nat (n : Nat) : IntKind.u8.wrap (n : Int) = ((UInt8.ofNat n).toNat : Int) := by
  rw [IntKind.wrap_u8, UInt8.toNat_ofNat']; omega
theorem shr_nat (n k : Nat) : (n : Int).fdiv (2 ^ k) = ((n >>> k : Nat) : Int) := by
  rw [Nat.shiftRight_eq_div_pow, pow2_cast, Int.fdiv_eq_ediv_of_nonneg _ (Int.natCast_nonneg _)]
  exact (Int.natCast_ediv _ _).symm
theorem zerosL_len (n : Nat) : (zerosL n).length = n := by simp [zerosL]
theorem zerosL_succ (n : Nat) : zerosL (n + 1) = zerosL n ++ [0] := by simp [zerosL, List.replicate_succ']
theorem be64_take {n i : Nat} (h : i < 8) : (be64 n).take (i + 1) = (be64 n).take i ++ [UInt8.ofNat (n >>> (56 - 8 * i))] := by
  match i, h with
  | 0, _ => rfl
  | 1, _ => rfl
  | 2, _ => rfl
  | 3, _ => rfl
  | 4, _ => rfl
  | 5, _ => rfl
  | 6, _ => rfl
  | 7, _ => rfl
  | i + 8, h => omega
theorem be64_len (n : Nat) : (be64 n).length = 8 := rfl
/-- A hash that is right. -/
structure DHash.good (h : DHash) : Prop where
  st : h.state.length = 8
  s0 : 0 ≤ h.size
  s1 : h.size ≤ 1099511627776
  r : (h.rest.size : Int) = h.size % 64
theorem padL_len (r n : Nat) : (padL r n).length = 9 + (119 - r) % 64 := by simp [padL, zerosL_len, be64_len]; omega
theorem outL_len (l : List UInt32) : (outL l).length = 4 * l.length := by
  unfold outL
  rw [flat_len _ 4 (fun x hx => by obtain ⟨w, _, rfl⟩ := List.mem_map.1 hx; rfl), List.length_map]
theorem outL_succ {l : List UInt32} {i : Nat} (h : i < l.length) : outL (l.take (i + 1)) = outL (l.take i) ++ wordB l[i] := by
  unfold outL
  rw [List.take_succ_eq_append_getElem h, List.map_append, List.flatten_append]; simp
theorem l05End_c (h : DHash) (hg : h.good) : Fun1 Try.prog 231 [.agg h.enc] (.one (.lit (.string (endF h)))) := by
  obtain ⟨hs, h0, h1, hr⟩ := hg
  refine fun1_of_vc tb_ok mix (fn := Try.f231) Try.func231 rfl (by kernel_rfl) (by kernel_rfl) (by simp [Try.f231]) (by rfl) ?_
  (conv => whnf)
  obtain ⟨S, hS⟩ : ∃ S : Nat, h.size = S := ⟨h.size.toNat, by omega⟩
  have hr' : h.rest.size = S % 64 := by omega
  obtain ⟨Z, hZ⟩ : ∃ Z, (119 - h.rest.size) % 64 = Z := ⟨_, rfl⟩
  refine ⟨LG (fun j : Nat => j ≤ Z) (fun j => Z - j) (fun j => AS.of [(1, .one (.ptr 16 0)), (2, .one (.lit (.string .empty))), (3, .one (.loc 160 0 (j + 1)))] [(16, .var h.enc), (160, .row true 1 ((128 :: zerosL j).map byteE))]), lg_init 0 (by omega) (weak_of (by repeat (first | refine all_cons (by first | rfl | exact eq_int rfl (by first | rfl | omega | (simp; done) | (simp; omega)) | exact eq_loc rfl (by first | rfl | omega | (simp; done) | (simp; omega)) | exact eq_bool rfl (by simp_all)) ?_ | exact all_nil)) (by repeat (first | refine all_cons (by first | rfl | exact eq_int rfl (by first | rfl | omega | (simp; done) | (simp; omega)) | exact eq_loc rfl (by first | rfl | omega | (simp; done) | (simp; omega)) | exact eq_bool rfl (by simp_all)) ?_ | exact all_nil)) rfl rfl), ?_⟩
  rintro σ k ⟨j, hj, rfl, rfl⟩
  refine ⟨_, Weak.refl _, ?_⟩
  (conv => whnf)
  refine ⟨((S + (j + 1) : Nat) : Int), by rw [← wrap64_id] <;> omega, ?_⟩; (conv => whnf)
  refine ⟨by decide, (((S + (j + 1)) % 64 : Nat) : Int), by rw [Int.ofNat_tmod]; rfl, ?_⟩; (conv => whnf)
  (split <;> rename_i h2 <;> (try simp only [decide_eq_true_eq, decide_eq_false_iff_not, Bool.not_eq_true', Bool.not_eq_false', Bool.not_eq_true, Bool.not_eq_false, List.length_map] at h2) <;> conv => whnf)
  · have hlt : j < Z := by omega
    refine ⟨true, [byteE 0], ⟨rfl, by simp [chunk], rfl, by simp [chunk]; rfl⟩, ?_⟩; (conv => whnf)
    refine ⟨[byteE 0], laid_map (f := byteE) (fun _ => rfl) [0], rfl, by simp [chunk, zerosL_len], rfl, by simp [maxLen, chunk, zerosL_len]; omega, by simp [chunk, zerosL_len]; omega, ?_⟩; (conv => whnf)
    exact lg_back (j + 1) (by omega) (by (try dsimp only); omega) (weak_of (all_cons rfl (all_cons rfl (all_cons (eq_loc rfl (by simp [chunk, zerosL_len])) all_nil))) (all_cons rfl (all_cons (eq_row rfl (by rw [zerosL_succ]; simp [chunk])) all_nil)) rfl rfl)
  · have : j = Z := by omega
    subst this
    refine ⟨((8 * S : Nat) : Int), by rw [← wrap64_id] <;> omega, ?_⟩; (conv => whnf)
    refine ⟨((8 * S : Nat) : Int), by rw [IntKind.wrap_u64]; omega, ?_⟩; (conv => whnf)
    have hpl : ∀ i, i ≤ 8 → (128 :: zerosL j ++ (be64 (8 * S)).take i).length = 1 + j + i := fun i hi => by simp [zerosL_len, be64_len]; omega
    refine ⟨LG (fun i : Nat => i ≤ 8) (fun i => 8 - i) (fun i => AS.of [(1, .one (.ptr 16 0)), (2, .one (.lit (.string .empty))), (3, .one (.loc 160 0 (1 + j + i))), (4, .one (.lit (.int .u64 ((8 * S : Nat) : Int)))), (5, .one (.lit (.int .i64 (56 - 8 * (i : Int)))))]
      [(16, .var h.enc), (160, .row true 1 ((128 :: zerosL j ++ (be64 (8 * S)).take i).map byteE))]), lg_init 0 (by omega) (weak_of (all_cons rfl (all_cons rfl (all_cons (eq_loc rfl (by omega)) (all_cons rfl (all_cons rfl all_nil))))) (all_cons rfl (all_cons (eq_row rfl (by simp)) all_nil)) rfl rfl), ?_⟩
    rintro σ k ⟨i, hi, rfl, rfl⟩
    have hp := hpl i hi
    refine ⟨_, Weak.refl _, ?_⟩
    (conv => whnf)
    (split <;> rename_i h3 <;> (try simp only [decide_eq_true_eq, decide_eq_false_iff_not, Bool.not_eq_true', Bool.not_eq_false', Bool.not_eq_true, Bool.not_eq_false, List.length_map] at h3) <;> conv => whnf)
    · have hlt : i < 8 := by omega
      refine ⟨((56 - 8 * i : Nat) : Int), by rw [IntKind.wrap_u64]; omega, ?_⟩; (conv => whnf)
      refine ⟨by omega, (((8 * S) >>> (56 - 8 * i) : Nat) : Int), by rw [← shr_nat]; congr 2; show 56 - 8 * i = min (((56 - 8 * i : Nat) : Int).toNat) 64; omega, ?_⟩; (conv => whnf)
      refine ⟨_, (u8_nat _).symm, ?_⟩; (conv => whnf)
      refine ⟨true, [byteE (UInt8.ofNat ((8 * S) >>> (56 - 8 * i)))], ⟨rfl, by simp [chunk], rfl, by simp [chunk]; rfl⟩, ?_⟩; (conv => whnf)
      refine ⟨[byteE (UInt8.ofNat ((8 * S) >>> (56 - 8 * i)))], laid_map (f := byteE) (fun _ => rfl) [UInt8.ofNat ((8 * S) >>> (56 - 8 * i))], rfl, by rw [List.length_map, hp], rfl, by rw [List.length_map, hp]; simp [maxLen, chunk]; omega, by rw [List.length_map, hp]; simp [chunk]; omega, ?_⟩; (conv => whnf)
      refine ⟨56 - 8 * ((i + 1 : Nat) : Int), by rw [← wrap64_id] <;> omega, ?_⟩; (conv => whnf)
      exact lg_back (i + 1) (by omega) (by (try dsimp only); omega) (weak_of (all_cons rfl (all_cons rfl (all_cons (eq_loc rfl (by rw [List.length_map, hp]; simp [chunk]; omega)) (all_cons rfl (all_cons rfl all_nil))))) (all_cons rfl (all_cons (eq_row rfl (by rw [be64_take hlt, ← List.append_assoc, List.map_append]; simp [chunk])) all_nil)) rfl rfl)
    · have : i = 8 := by omega
      subst this
      have hpad : (128 :: zerosL j ++ (be64 (8 * S)).take 8) = padL h.rest.size h.size.toNat := by
        rw [List.take_of_length_le (by rw [be64_len]; omega), padL, hZ, hS]; rfl
      have hN : h.size.toNat = S := by omega
      refine ⟨true, _, padL h.rest.size h.size.toNat, ⟨rfl, by rw [List.length_map, hp]; omega, rfl, rfl⟩, by rw [hpad]; exact List.take_of_length_le (by rw [← hpad, List.length_drop, List.length_map, hp]; omega), ?_⟩; (conv => whnf)
      obtain ⟨x, hx⟩ : ∃ x, moreF h (bytesOf (padL h.rest.size h.size.toNat)) = x := ⟨_, rfl⟩
      have hxs : x.state.length = 8 := by rw [← hx]; exact blocksN_len hs _ _
      have cM := l05More_c h hs (by omega) (by omega) (bytesOf (padL h.rest.size h.size.toNat)) (by show (padL h.rest.size h.size.toNat).length ≤ _; rw [padL_len]; omega)
      rw [hx] at cM
      have hend : endF h = bytesOf (outL x.state) := by unfold endF; rw [hx]
      rw [hend]
      refine ⟨_, _, cM, (by repeat' (first | exact lends_nil | exact lend_dead | apply lends_cons | apply lend_agg | apply lend_one | exact all2_nil | apply all2_cons | exact la_lit rfl | exact la_int (by first | rfl | omega) | exact la_row rfl rfl | exact la_loc rfl rfl rfl (by first | rfl | simp [mkL_length]) (by first | rfl | simp) | exact la_nil rfl | apply la_fn rfl | exact lend_same rfl rfl | exact lend_bor rfl rfl)), ?_⟩; (conv => whnf)
      refine ⟨LG (fun i : Nat => i ≤ 8) (fun i => 8 - i) (fun i => AS.of [(2, .one (.lit (.string .empty))), (6, .one (.ptr 96 0)), (7, .one (.loc 656 0 (4 * i))), (8, .one (.lit (.int .i64 (i : Nat))))]
        [(96, .var [.loc 640 0 8, .lit (.string x.rest), .lit (.int .i64 x.size)]), (640, .row true 1 (x.state.map eN)), (656, .row true 1 ((outL (x.state.take i)).map byteE))]), lg_init 0 (by omega) (weak_of (by repeat (first | refine all_cons (by first | rfl | exact eq_int rfl (by first | rfl | omega | (simp; done) | (simp; omega)) | exact eq_loc rfl (by first | rfl | omega | (simp; done) | (simp; omega)) | exact eq_bool rfl (by simp_all)) ?_ | exact all_nil)) (all_cons (eq_var rfl (by simp [openL, openAV, hxs, siteOf, DHash.enc])) (all_cons rfl (all_cons rfl all_nil))) rfl rfl), ?_⟩
      rintro σ k ⟨i, hi, rfl, rfl⟩
      have hol : (outL (x.state.take i)).length = 4 * i := by rw [outL_len, List.length_take]; omega
      refine ⟨_, Weak.refl _, ?_⟩
      (conv => whnf)
      (split <;> rename_i h4 <;> (try simp only [decide_eq_true_eq, decide_eq_false_iff_not, Bool.not_eq_true', Bool.not_eq_false', Bool.not_eq_true, Bool.not_eq_false, List.length_map] at h4) <;> conv => whnf)
      · have hlt : i < x.state.length := by omega
        have hsx := outL_succ hlt
        refine ⟨i, rfl, by omega, ?_⟩; (conv => whnf)
        refine ⟨_, at_map0 hlt, ?_⟩; (conv => whnf)
        refine ⟨by decide, _, (shr_nat _ 24).symm, ?_⟩; (conv => whnf)
        refine ⟨_, (u8_nat _).symm, ?_⟩; (conv => whnf)
        refine ⟨by decide, _, (shr_nat _ 16).symm, ?_⟩; (conv => whnf)
        refine ⟨_, (u8_nat _).symm, ?_⟩; (conv => whnf)
        refine ⟨by decide, _, (shr_nat _ 8).symm, ?_⟩; (conv => whnf)
        refine ⟨_, (u8_nat _).symm, ?_⟩; (conv => whnf)
        refine ⟨_, (u8_nat _).symm, ?_⟩; (conv => whnf)
        refine ⟨true, (wordB x.state[i]).map byteE, ⟨rfl, by simp [chunk], rfl, rfl⟩, ?_⟩; (conv => whnf)
        refine ⟨(wordB x.state[i]).map byteE, laid_map (f := byteE) (fun _ => rfl) _, rfl, by rw [List.length_map, hol], rfl, by rw [List.length_map, hol]; simp [maxLen, wordB]; omega, by rw [List.length_map, hol]; simp [wordB]; omega, ?_⟩; (conv => whnf)
        (refine ⟨((i + 1 : Nat) : Int), by rw [← wrap64_id] <;> omega, ?_⟩; conv => whnf)
        exact lg_back (i + 1) (by omega) (by (try dsimp only); omega) (weak_of (all_cons rfl (all_cons rfl (all_cons (eq_loc rfl (by rw [List.length_map, hol]; simp [wordB]; omega)) (all_cons rfl all_nil)))) (all_cons rfl (all_cons rfl (all_cons (eq_row rfl (by rw [hsx, List.map_append])) all_nil))) rfl rfl)
      · have : i = 8 := by omega
        subst this
        refine ⟨true, _, outL x.state, ⟨rfl, by rw [List.length_map, hol]; omega, rfl, rfl⟩, by rw [List.take_of_length_le (show x.state.length ≤ 8 by omega)]; exact List.take_of_length_le (by rw [List.drop_zero, List.length_map, outL_len]; omega), ?_⟩; (conv => whnf)
        exact ⟨close_str rfl, trivial⟩
theorem good0 : (⟨startL, .empty, 0⟩ : DHash).good := ⟨rfl, by decide, by decide, by decide⟩
theorem more_good {h : DHash} (hg : h.good) {t : ByteArray} (ht : h.size + t.size ≤ 1099511627776) : (moreF h t).good := by
  obtain ⟨hs, h0, h1, hr⟩ := hg
  refine ⟨blocksN_len hs _ _, by show 0 ≤ h.size + (t.size : Int); omega, ht, ?_⟩
  show (((h.rest ++ t).extract _ _).size : Int) = (h.size + (t.size : Int)) % 64
  rw [ByteArray.size_extract, ByteArray.size_append]
  omega
theorem digestSpec_c (t : ByteArray) (ht : t.size ≤ 4294967296) : Fun1 Try.prog 212 [.one (.lit (.string t))] (.one (.lit (.string (if t.size ≤ 20000 then digF t else .empty)))) := by
  refine fun1_of_vc tb_ok mix (fn := Try.f212) Try.func212 rfl (by kernel_rfl) (by kernel_rfl) (by simp [Try.f212]) (by rfl) ?_
  (conv => whnf)
  (split <;> rename_i h <;> (try simp only [decide_eq_true_eq, decide_eq_false_iff_not, Bool.not_eq_true', Bool.not_eq_false', Bool.not_eq_true, Bool.not_eq_false, List.length_map] at h) <;> conv => whnf)
  · exact ⟨close_str (by rw [if_neg (by omega)]; rfl), trivial⟩
  · refine ⟨_, _, hashBegin_c, (by repeat' (first | exact lends_nil | exact lend_dead | apply lends_cons | apply lend_agg | apply lend_one | exact all2_nil | apply all2_cons | exact la_lit rfl | exact la_int (by first | rfl | omega) | exact la_row rfl rfl | exact la_loc rfl rfl rfl (by first | rfl | simp [mkL_length]) (by first | rfl | simp) | exact la_nil rfl | apply la_fn rfl | exact lend_same rfl rfl | exact lend_bor rfl rfl)), ?_⟩; (conv => whnf)
    refine ⟨_, _, l05More_c ⟨startL, .empty, 0⟩ rfl (by decide) (by decide) t (by omega), (by repeat' (first | exact lends_nil | exact lend_dead | apply lends_cons | apply lend_agg | apply lend_one | exact all2_nil | apply all2_cons | exact la_lit rfl | exact la_int (by first | rfl | omega) | exact la_row rfl rfl | exact la_loc rfl rfl rfl (by first | rfl | simp [mkL_length]) (by first | rfl | simp) | exact la_nil rfl | apply la_fn rfl | exact lend_same rfl rfl | exact lend_bor rfl rfl)), ?_⟩; (conv => whnf)
    refine ⟨_, _, l05End_c (moreF ⟨startL, .empty, 0⟩ t) (more_good good0 (by show (0 : Int) + (t.size : Int) ≤ 1099511627776; omega)), (by repeat' (first | exact lends_nil | exact lend_dead | apply lends_cons | apply lend_agg | apply lend_one | exact all2_nil | apply all2_cons | exact la_lit rfl | exact la_int (by first | rfl | omega) | exact la_row rfl rfl | exact la_loc rfl rfl rfl (by first | rfl | simp [mkL_length]) (by first | rfl | simp) | exact la_nil rfl | apply la_fn rfl | exact lend_same rfl rfl | exact lend_bor rfl rfl)), ?_⟩; (conv => whnf)
    exact ⟨close_str (by rw [if_pos (by omega)]; rfl), trivial⟩
end Go.Proofs.Ytlijeincckbdaaa
namespace Go.Proofs.Ytlijeincckbdaaa
open Go.RowKit
set_option linter.unusedSimpArgs false
set_option linter.unusedVariables false
theorem chooseN_mem {p : DPolicy} {l : List DSnap} (h1 : polOk p = true) (h2 : snapsOk l = true) (is : Bool) {s : DSnap} (hs : s ∈ l) : s.name ∈ chooseN p l is ↔ decide (s.name ∈ keptN p (newest l)) = is := by
  have ha := snapsOk_apart h2
  unfold chooseN
  rw [if_pos ⟨h1, h2⟩]
  simp only [List.mem_map, List.mem_filter, beq_iff_eq]
  constructor
  · rintro ⟨s', ⟨h3, h4⟩, h5⟩
    rw [← h5]; exact h4
  · intro h; exact ⟨s, ⟨hs, h⟩, rfl⟩
theorem filter_part {α : Type} (c : α → Bool) (l : List α) : (l.filter fun s => c s == true).length + (l.filter fun s => c s == false).length = l.length := by
  induction l with
  | nil => rfl
  | cons s l ih =>
    cases h : c s <;> simp [List.filter_cons, h] <;> simp at ih <;> omega
theorem chooseN_part {p : DPolicy} {l : List DSnap} (h1 : polOk p = true) (h2 : snapsOk l = true) : (chooseN p l true).length + (chooseN p l false).length = l.length := by
  unfold chooseN
  rw [if_pos ⟨h1, h2⟩, if_pos ⟨h1, h2⟩, List.length_map, List.length_map]
  exact filter_part (fun s : DSnap => decide (s.name ∈ keptN p (newest l))) l
theorem nodup_len {α : Type} : ∀ {A K : List α}, A.Nodup → (∀ x ∈ A, x ∈ K) → A.length ≤ K.length
  | [], _, _, _ => Nat.zero_le _
  | x :: A, K, hn, h => by
    obtain ⟨K1, K2, rfl⟩ := List.append_of_mem (h x (by simp))
    rw [List.nodup_cons] at hn
    have := nodup_len (A := A) (K := K1 ++ K2) hn.2 fun y hy => by
      have h1 := h y (by simp [hy])
      have hne : y ≠ x := fun e => hn.1 (e ▸ hy)
      simp only [List.mem_append, List.mem_cons] at h1 ⊢
      rcases h1 with h1 | h1 | h1
      · exact .inl h1
      · exact absurd h1 hne
      · exact .inr h1
    simp at this ⊢; omega
theorem apart_nodup {l : List DSnap} (h : Apart l) : (l.map (·.name)).Nodup := by
  rw [List.Nodup, List.pairwise_map]; exact h
theorem chooseN_le {p : DPolicy} {l : List DSnap} (h1 : polOk p = true) (h2 : snapsOk l = true) : (chooseN p l true).length ≤ (keptN p (newest l)).length := by
  refine nodup_len ?_ fun x hx => ?_
  · unfold chooseN
    rw [if_pos ⟨h1, h2⟩]
    exact apart_nodup (List.Pairwise.filter _ (snapsOk_apart h2))
  · unfold chooseN at hx
    rw [if_pos ⟨h1, h2⟩] at hx
    simp only [List.mem_map, List.mem_filter, beq_iff_eq, decide_eq_true_eq] at hx
    obtain ⟨s, ⟨_, h3⟩, rfl⟩ := hx
    exact h3
theorem someN_mono {l : List DSnap} {m m' by_ : Int} (h : m ≤ m') {x : ByteArray} : ∀ n, x ∈ someN l m by_ n → x ∈ someN l m' by_ n := by
  have key : ∀ n, someN l m by_ n = someN l m' by_ n ∨ (m ≤ ((someN l m by_ n).length : Int) ∧ ∀ x, x ∈ someN l m by_ n → x ∈ someN l m' by_ n) := by
    intro n
    induction n with
    | zero => exact .inl rfl
    | succ n ih =>
      rcases ih with e | ⟨h1, h2⟩
      · by_cases hm : ((someN l m by_ n).length : Int) < m
        · left
          simp only [someN, someStep, ← e]
          split
          · congr 1
            simp only [eq_iff_iff]
            exact ⟨fun q => ⟨by omega, q.2⟩, fun q => ⟨hm, q.2⟩⟩
          · rfl
        · right
          have e1 : someN l m by_ (n + 1) = someN l m by_ n := by
            simp only [someN, someStep]
            split
            · rw [if_neg (fun q => hm q.1)]
            · rfl
          rw [e1]
          refine ⟨by omega, fun x hx => ?_⟩
          rw [e] at hx
          simp only [someN, someStep]
          split
          · split
            · exact List.mem_append_left _ hx
            · exact hx
          · exact hx
      · right
        have e1 : someN l m by_ (n + 1) = someN l m by_ n := by
          simp only [someN, someStep]
          split
          · rw [if_neg (by omega)]
          · rfl
        rw [e1]
        refine ⟨h1, fun x hx => ?_⟩
        have := h2 x hx
        simp only [someN, someStep]
        split
        · split
          · exact List.mem_append_left _ this
          · exact this
        · exact this
  intro n hx
  rcases key n with e | ⟨_, h2⟩
  · rw [← e]; exact hx
  · exact h2 x hx
theorem firstN_mem {l : List DSnap} {x : ByteArray} : ∀ (i : Nat), x ∈ firstN l i ↔ ∃ s ∈ l.take i, s.name = x := by
  intro i
  unfold firstN
  have : ∀ (ss : List DSnap) (acc : List ByteArray), x ∈ ss.foldl (fun o s => putN o s.name) acc ↔ (∃ s ∈ ss, s.name = x) ∨ x ∈ acc := by
    intro ss
    induction ss with
    | nil => intro acc; simp
    | cons s ss ih =>
      intro acc
      rw [List.foldl_cons, ih, putN_mem]
      simp only [List.mem_cons, exists_eq_or_imp]
      constructor
      · rintro (h | h | h)
        · exact .inl (.inr h)
        · exact .inl (.inl h.symm)
        · exact .inr h
      · rintro ((h | h) | h)
        · exact .inr (.inl h.symm)
        · exact .inl h
        · exact .inr (.inr h)
  rw [this]; simp
theorem keptN_mem {p : DPolicy} {l : List DSnap} {x : ByteArray} : x ∈ keptN p l ↔ x ∈ someN l p.days 1 l.length ∨ x ∈ someN l p.weeks 7 l.length ∨ x ∈ someN l p.months 30 l.length ∨ x ∈ firstN l (lastK p l) := by
  unfold keptN moreN
  rw [foldPut_mem]
  simp only [List.mem_append]
  constructor
  · rintro (((h | h) | h) | h) <;> simp [h]
  · rintro (h | h | h | h) <;> simp [h]
theorem keptN_mono {p q : DPolicy} {l : List DSnap} (h1 : p.last ≤ q.last) (h2 : p.days ≤ q.days) (h3 : p.weeks ≤ q.weeks) (h4 : p.months ≤ q.months) {x : ByteArray} (hx : x ∈ keptN p l) : x ∈ keptN q l := by
  rw [keptN_mem] at hx ⊢
  rcases hx with h | h | h | h
  · exact .inl (someN_mono h2 _ h)
  · exact .inr (.inl (someN_mono h3 _ h))
  · exact .inr (.inr (.inl (someN_mono h4 _ h)))
  · refine .inr (.inr (.inr ?_))
    rw [firstN_mem] at h ⊢
    obtain ⟨s, hs, e⟩ := h
    have : lastK p l ≤ lastK q l := by unfold lastK; omega
    exact ⟨s, (List.take_subset_take_left _ this) hs, e⟩
theorem someN_many {l : List DSnap} {m by_ : Int} (h : 0 ≤ m) : ∀ n, ((someN l m by_ n).length : Int) ≤ m
  | 0 => by simpa [someN] using h
  | n + 1 => by
    have := someN_many (l := l) (by_ := by_) h n
    simp only [someN, someStep]
    split
    · split
      · rename_i hh; simp; omega
      · exact this
    · exact this
theorem keptN_many {p : DPolicy} (hp : polOk p = true) (l : List DSnap) : ((keptN p l).length : Int) ≤ p.last + p.days + p.weeks + p.months := by
  simp only [polOk, wi, Bool.and_eq_true, decide_eq_true_eq] at hp
  have hk : lastK p l ≤ l.length := by unfold lastK; omega
  have h1 := (first_ok (l := l) (lastK p l) hk).2
  have h2 := foldPut_len (moreN p l) (firstN l (lastK p l))
  have h3 := someN_many (l := l) (by_ := 1) (show 0 ≤ p.days by omega) l.length
  have h4 := someN_many (l := l) (by_ := 7) (show 0 ≤ p.weeks by omega) l.length
  have h5 := someN_many (l := l) (by_ := 30) (show 0 ≤ p.months by omega) l.length
  have h6 : (moreN p l).length = (someN l p.days 1 l.length).length + (someN l p.weeks 7 l.length).length + (someN l p.months 30 l.length).length := by unfold moreN; simp; omega
  have h7 : ((lastK p l : Nat) : Int) ≤ p.last := by unfold lastK; omega
  unfold keptN
  omega
theorem someN_head {N : List DSnap} (h0 : 0 < N.length) {m by_ : Int} (hm : 0 < m) : ∀ n, 0 < n → N[0].name ∈ someN N m by_ n
  | 0, h => by omega
  | 1, _ => by
    have e : someN N m by_ 1 = [N[0].name] := by
      show someStep N m by_ [] 0 = _
      unfold someStep
      rw [List.getElem?_eq_getElem h0]
      simp [fresh, hm]
    rw [e]; simp
  | n + 2, _ => by
    have := someN_head h0 (by_ := by_) hm (n + 1) (by omega)
    rw [someN]
    simp only [someStep]
    split
    · split
      · exact List.mem_append_left _ this
      · exact this
    · exact this
theorem keptN_head {p : DPolicy} (hp : polOk p = true) (hz : p ≠ ⟨0, 0, 0, 0⟩) {N : List DSnap} (h0 : 0 < N.length) : N[0].name ∈ keptN p N := by
  simp only [polOk, wi, Bool.and_eq_true, decide_eq_true_eq] at hp
  rw [keptN_mem]
  by_cases h1 : 0 < p.days
  · exact .inl (someN_head h0 h1 _ h0)
  by_cases h2 : 0 < p.weeks
  · exact .inr (.inl (someN_head h0 h2 _ h0))
  by_cases h3 : 0 < p.months
  · exact .inr (.inr (.inl (someN_head h0 h3 _ h0)))
  · refine .inr (.inr (.inr ?_))
    have h4 : 0 < p.last := by
      apply Classical.byContradiction
      intro h4
      apply hz
      obtain ⟨a, b, c, d⟩ := p
      simp only at *
      have e1 : a = 0 := by omega
      have e2 : b = 0 := by omega
      have e3 : c = 0 := by omega
      have e4 : d = 0 := by omega
      subst e1 e2 e3 e4
      rfl
    rw [firstN_mem]
    refine ⟨N[0], ?_, rfl⟩
    have : 0 < lastK p N := by unfold lastK; omega
    exact List.mem_iff_getElem.2 ⟨0, by simp; omega, by simp⟩
/-- The newest of the first i. -/
def NewI (l : List DSnap) (i j : Nat) : Prop := ∃ h : j < l.length, j < i ∧ ∀ k (hk : k < l.length), k < i → l[k].day ≤ l[j].day ∧ (j < k → l[k].day < l[j].day)
theorem newI_head {l : List DSnap} (h2 : snapsOk l = true) {j : Nat} (hj : NewI l l.length j) : ∃ h0 : 0 < (newest l).length, l[j]'hj.1 = (newest l)[0] := by
  obtain ⟨hjl, _, hall⟩ := hj
  have ha := snapsOk_apart h2
  obtain ⟨hperm, hpw⟩ := newest_ok l ha
  have hlen := hperm.length_eq
  have h0 : 0 < (newest l).length := by omega
  refine ⟨h0, ?_⟩
  have hm0 : (newest l)[0] ∈ l := (newest_mem ha).1 (List.getElem_mem h0)
  obtain ⟨k, hk, ek⟩ := List.mem_iff_getElem.1 hm0
  by_cases e : k = j
  · subst e; exact ek
  · exfalso
    have hn : newer l[j] l[k] = true := by
      rw [newer_iff]
      obtain ⟨q1, q2⟩ := hall k hk (by omega)
      by_cases hd : l[k].day < l[j].day
      · exact .inl hd
      · have : k < j := by
          apply Classical.byContradiction; intro hh
          exact hd (q2 (by omega))
        exact .inr ⟨by omega, snapsOk_lt h2 j k this hjl⟩
    have hmj : l[j] ∈ newest l := (newest_mem ha).2 (List.getElem_mem hjl)
    obtain ⟨m, hm, em⟩ := List.mem_iff_getElem.1 hmj
    by_cases e0 : m = 0
    · subst e0
      rw [ek, ← em, newer_irrefl] at hn; cases hn
    · have h3 := (List.pairwise_iff_getElem.1 hpw) 0 m h0 hm (by omega)
      rw [em, ← ek] at h3
      have := newer_trans h3 hn
      rw [newer_irrefl] at this; cases this
theorem newI_step {l : List DSnap} {i j : Nat} (hi : i < l.length) (h : i = 0 ∨ NewI l i j) (hge : i = 0 ∨ ∃ h : j < l.length, l[j].day ≤ l[i].day) : NewI l (i + 1) i := by
  refine ⟨hi, by omega, fun k hk hki => ⟨?_, fun h => by omega⟩⟩
  by_cases e : k = i
  · subst e; exact Int.le_refl _
  · rcases h with h | ⟨h1, h2, h3⟩
    · omega
    · rcases hge with hge | ⟨_, hge⟩
      · omega
      · have := (h3 k hk (by omega)).1
        omega
theorem newI_stay {l : List DSnap} {i j : Nat} (hi : i < l.length) (h : NewI l i j) (hlt : ∀ h : j < l.length, l[i].day < l[j].day) : NewI l (i + 1) j := by
  obtain ⟨h1, h2, h3⟩ := h
  refine ⟨h1, by omega, fun k hk hki => ?_⟩
  by_cases e : k = i
  · subst e
    have := hlt h1
    exact ⟨by omega, fun _ => this⟩
  · exact h3 k hk (by omega)
end Go.Proofs.Ytlijeincckbdaaa
