/- The law FnExactPutSteps: whatever the input, it returns true, and the input reads behind the call as it read before. No condition. -/
import Derived.Test.YtdbnppipgblajaaGreatDoorY3
import Derived.Test.YtdbnppipgblajaaGreatDoorY2
import Derived.Test.YtdbnppipgblajaaGreatDoorRows
import Derived.WalkKit
import Derived.ProofKit
import Derived.SizedLaws
import Derived.Deep.Slices
import Derived.Test.YtdbnppipgblajaaGreatDoorChecked
import Derived.KernelRfl
import Derived.Test.YtdbnppipgblajaaGreatDoorCards
import Derived.Test.YtdbnppipgblajaaGreatDoorTie
import Derived.OpenShut
import Derived.ShutString
import Derived.ChangeOld
import Derived.Below
import Derived.Deep.DeepHandedRow
import Derived.Lib.LaidTab
import Derived.OpenVars
namespace Go.Proofs.YtdbnppipgblajaaGreatDoor
open Go.RowKit
set_option linter.unusedSimpArgs false
set_option linter.unusedVariables false
set_option maxRecDepth 100000
set_option maxHeartbeats 4000000
theorem padN_alt {k : Nat} (t : ByteArray) : t.data.toList ++ (List.replicate (shN k t.size * k) (0 : UInt8)).drop t.size = padN k t := by
  unfold padN
  rw [List.drop_replicate, Nat.mul_comm]
theorem encSpec_c {k m : Nat} {t : ByteArray} (hk : 1 ≤ k ∧ k ≤ 8) (hm : m ≤ 6) (ht : t.size ≤ 20000) : Fun1 Tryz.prog 32 [.one (vN k), .one (vN m), .one (.lit (.string t))] (.agg [.row true 1 ((encN k m t).map eStr), .lit (.int .i64 0)]) := by
  have hb := shN_bounds (size := t.size) hk.1
  have hcb := combSpec_c (k + m) k (shN k t.size) (cauchyN k m).flatten (cutN k t) (by omega) (by omega) (cauchy_cells k m) (cauchy_lt hk.2 hm) (by rw [cutN_len]; exact Nat.le_refl _) (by rw [cutN_len]; omega) (by rw [cutN_len]; omega) (cutN_size hk.1 t) (by omega)
  have hpl := padN_len hk.1 t
  have hcs := shardSpec_c hk ht
  have hpt := padN_alt (k := k) t
  have hnb : (T.agg [.row true 1 ((encN k m t).map eStr), .lit (.int .i64 0)]).nb = true := by
    have : AV.nb (4 + 1) (.row true 1 ((encN k m t).map eStr)) = true := nb_map (n := 4) (fun y => rfl) _
    simp only [T.nb, List.all_cons, List.all_nil, this]; rfl
  have hcN : cutN k t = (List.range k).map (fun i => txtOf (((padN k t).drop (i * shN k t.size)).take (shN k t.size))) := rfl
  obtain ⟨n, hn⟩ : ∃ n, shN k t.size = n := ⟨_, rfl⟩
  rw [hn] at hb hpl hcs hcN hpt
  have hnk : n * k = k * n := Nat.mul_comm _ _
  have hcut : ∀ q, (List.range (q + 1)).map (fun i => txtOf (((padN k t).drop (i * n)).take n)) = (List.range q).map (fun i => txtOf (((padN k t).drop (i * n)).take n)) ++ [txtOf (((padN k t).drop (q * n)).take n)] := fun q => range_succ_map _ q
  refine fun1_of_vc tb_ok mix (fn := Tryz.f32) Tryz.func32 rfl (by kernel_rfl) (by kernel_rfl) (by simp [Tryz.f32]) (by exact hnb) ?_
  (conv => whnf)
  (split <;> rename_i h0 <;> (try simp only [decide_eq_true_eq, decide_eq_false_iff_not, Bool.not_eq_true', Bool.not_eq_false', Bool.not_eq_true, Bool.not_eq_false, List.length_map] at h0) <;> conv => whnf)
  · exfalso; omega
  refine ⟨_, _, codeSpec_c k m, (by repeat' (first | exact lends_nil | exact lend_dead | apply lends_cons | apply lend_agg | apply lend_one | exact all2_nil | apply all2_cons | exact la_lit rfl | exact la_int (by first | rfl | omega) | exact la_row rfl rfl | exact la_loc rfl rfl rfl (by first | rfl | simp [mkL_length]) (by first | rfl | simp) | exact la_nil rfl | apply la_fn rfl | exact lend_same rfl rfl | exact lend_bor rfl rfl)), ?_⟩
  rw [codeN hk hm]
  (conv => whnf)
  refine ⟨_, _, hcs, (by repeat' (first | exact lends_nil | exact lend_dead | apply lends_cons | apply lend_agg | apply lend_one | exact all2_nil | apply all2_cons | exact la_lit rfl | exact la_int (by first | rfl | omega) | exact la_row rfl rfl | exact la_loc rfl rfl rfl (by first | rfl | simp [mkL_length]) (by first | rfl | simp) | exact la_nil rfl | apply la_fn rfl | exact lend_same rfl rfl | exact lend_bor rfl rfl)), ?_⟩; (conv => whnf)
  refine ⟨((n * k : Nat) : Int), by rw [← wrap64_id] <;> omega, ?_⟩; (conv => whnf)
  refine ⟨n * k, rfl, Int.le_refl _, by omega, by simp only [maxLen]; omega, ?_⟩; (conv => whnf)
  refine ⟨_, _, copyStr_ok (ls := List.replicate (n * k) 0) (t := t) (s := 432) (e := 5) (by rfl) (by rfl) (by rfl) (by rw [List.length_replicate]; rfl) rfl (eq_row rfl (by simp [byteE])) (by rw [List.length_replicate]; omega), ?_⟩; (conv => whnf)
  refine ⟨LG (fun i : Nat => i ≤ k) (fun i => k - i) (fun i => AS.of [(0, .one (vN k)), (1, .one (vN m)), (6, .one (.ptr 96 0)), (7, .one (vN n)), (8, .one (.loc 432 0 (n * k))), (9, .one (.loc 496 0 i)), (10, .one (vN i))]
    [(96, .var [.lit (.slice none 0 0), .lit (.int .i64 0)]), (432, .row true 1 ((padN k t).map byteE)), (496, .row true 1 (((List.range i).map (fun i => txtOf (((padN k t).drop (i * n)).take n))).map eStr))]),
    lg_init 0 (by omega) (weak_of (by repeat (first | refine all_cons (by first | rfl | exact eq_int rfl (by first | rfl | omega | (simp; done) | (simp; omega)) | exact eq_loc rfl (by first | rfl | omega | (simp; done) | (simp; omega)) | exact eq_bool rfl (by simp_all)) ?_ | exact all_nil)) (all_cons rfl (all_cons (eq_row rfl (by rw [hpt])) (all_cons rfl all_nil))) rfl rfl), ?_⟩
  rintro σ j ⟨i, hi, rfl, rfl⟩
  refine ⟨_, Weak.refl _, ?_⟩
  (conv => whnf)
  (split <;> rename_i h <;> (try simp only [decide_eq_true_eq, decide_eq_false_iff_not, Bool.not_eq_true', Bool.not_eq_false', Bool.not_eq_true, Bool.not_eq_false, List.length_map] at h) <;> conv => whnf)
  · have hlt : i < k := by omega
    have hle := cut_le (n := n) hlt
    refine ⟨((i * n : Nat) : Int), by rw [← wrap64_id] <;> omega, ?_⟩; (conv => whnf)
    refine ⟨((i + 1 : Nat) : Int), by rw [← wrap64_id] <;> omega, ?_⟩; (conv => whnf)
    refine ⟨((i * n + n : Nat) : Int), by rw [show ((i + 1 : Nat) : Int) * (n : Int) = ((i * n + n : Nat) : Int) by rw [← Int.natCast_mul, Nat.add_mul, Nat.one_mul], ← wrap64_id] <;> omega, ?_⟩; (conv => whnf)
    refine ⟨by simp only [Option.getD]; omega, by simp only [Option.getD]; omega, by simp only [Option.getD]; omega, ?_⟩; (conv => whnf)
    refine ⟨i * n, n, by simp only [Nat.zero_add]; rfl, by show n = (i * n + n) - i * n; omega, ?_⟩; (conv => whnf)
    refine ⟨true, _, ((padN k t).drop (i * n)).take n, ⟨rfl, by rw [List.length_map, hpl]; omega, rfl, rfl⟩, by rw [List.map_take, List.map_drop], ?_⟩; (conv => whnf)
    refine ⟨true, [eStr (txtOf (((padN k t).drop (i * n)).take n))], ⟨rfl, by simp [chunk], rfl, rfl⟩, ?_⟩; (conv => whnf)
    refine ⟨_, laid_map (f := eStr) (fun _ => rfl) [txtOf (((padN k t).drop (i * n)).take n)], rfl, by simp, rfl, by simp [maxLen]; omega, by simp; omega, ?_⟩; (conv => whnf)
    (refine ⟨((i + 1 : Nat) : Int), by rw [← wrap64_id] <;> omega, ?_⟩; conv => whnf)
    exact lg_back (i + 1) (by omega) (by (try dsimp only); omega) (weak_of (all_cons rfl (all_cons rfl (all_cons rfl (all_cons rfl (all_cons rfl (all_cons (eq_loc rfl (by simp)) (all_cons rfl all_nil))))))) (all_cons rfl (all_cons rfl (all_cons (eq_row rfl (by rw [hcut, List.map_append])) all_nil))) rfl rfl)
  · have : i = k := by omega
    subst this
    refine ⟨_, _, cauchySpec_c hk hm, (by repeat' (first | exact lends_nil | exact lend_dead | apply lends_cons | apply lend_agg | apply lend_one | exact all2_nil | apply all2_cons | exact la_lit rfl | exact la_int (by first | rfl | omega) | exact la_row rfl rfl | exact la_loc rfl rfl rfl (by first | rfl | simp [mkL_length]) (by first | rfl | simp) | exact la_nil rfl | apply la_fn rfl | exact lend_same rfl rfl | exact lend_bor rfl rfl)), ?_⟩; (conv => whnf)
    rw [hcN] at hcb
    refine ⟨_, _, hcb, (lends_cons (lend_agg (all2_cons (la_int rfl) (all2_cons (la_int rfl) (all2_cons (la_loc rfl rfl rfl rfl rfl) all2_nil)))) (lends_cons (lend_one (la_loc rfl rfl rfl (by simp) rfl)) lends_nil)), ?_⟩; (conv => whnf)
    exact ⟨close_row rfl rfl (by simp [encN, combN]) (by rw [encN, hcN]), close_int rfl, trivial⟩
end Go.Proofs.YtdbnppipgblajaaGreatDoor
namespace Go.Proofs.YtdbnppipgblajaaGreatDoor
open Go.RowKit
set_option linter.unusedSimpArgs false
set_option linter.unusedVariables false
set_option maxRecDepth 100000
set_option maxHeartbeats 4000000
def objOk (s : ByteArray) : Bool := nameOk s 60 && !isTmp s
theorem nameOk_60 (s : ByteArray) : nameOk s 60 = (nameOk s 80 && decide ((s.size : Int) ≤ 60)) := by
  rw [Bool.eq_iff_iff]
  simp only [nameOk, Bool.and_eq_true, decide_eq_true_eq]
  constructor
  · rintro ⟨h1, h2, h3⟩; exact ⟨⟨h1, h2, by omega⟩, h3⟩
  · rintro ⟨⟨h1, h2, h3⟩, h4⟩; exact ⟨h1, h2, h4⟩
theorem objectImpl_c (s : ByteArray) (hs : s.size ≤ 4294967296) : Fun1 Tryz.prog 22 [.one (.lit (.string s))] (.one (.lit (.bool (objOk s)))) := by
  refine fun1_of_vc tb_ok mix (fn := Tryz.f22) Tryz.func22 rfl (by kernel_rfl) (by kernel_rfl) (by simp [Tryz.f22]) (by rfl) ?_
  (conv => whnf)
  refine ⟨_, _, isName_c s 60 hs, (by repeat' (first | exact lends_nil | exact lend_dead | apply lends_cons | apply lend_agg | apply lend_one | exact all2_nil | apply all2_cons | exact la_lit rfl | exact la_int (by first | rfl | omega) | exact la_row rfl rfl | exact la_loc rfl rfl rfl (by first | rfl | simp [mkL_length]) (by first | rfl | simp) | exact la_nil rfl | apply la_fn rfl | exact lend_same rfl rfl | exact lend_bor rfl rfl)), ?_⟩; (conv => whnf)
  (split <;> rename_i h <;> (try simp only [decide_eq_true_eq, decide_eq_false_iff_not, Bool.not_eq_true', Bool.not_eq_false', Bool.not_eq_true, Bool.not_eq_false, List.length_map] at h) <;> conv => whnf)
  · refine ⟨_, _, hasPrefix_c s ⟨#[116, 45]⟩, (by repeat' (first | exact lends_nil | exact lend_dead | apply lends_cons | apply lend_agg | apply lend_one | exact all2_nil | apply all2_cons | exact la_lit rfl | exact la_int (by first | rfl | omega) | exact la_row rfl rfl | exact la_loc rfl rfl rfl (by first | rfl | simp [mkL_length]) (by first | rfl | simp) | exact la_nil rfl | apply la_fn rfl | exact lend_same rfl rfl | exact lend_bor rfl rfl)), ?_⟩; (conv => whnf)
    exact ⟨close_bool (by rw [objOk, h]; rfl), trivial⟩
  · exact ⟨close_bool (by rw [objOk, h]; rfl), trivial⟩
theorem objectSpec_c (s : ByteArray) (hs : s.size ≤ 4294967296) : Fun1 Tryz.prog 16 [.one (.lit (.string s))] (.one (.lit (.bool (objOk s)))) := by
  refine fun1_of_vc tb_ok mix (fn := Tryz.f16) Tryz.func16 rfl (by kernel_rfl) (by kernel_rfl) (by simp [Tryz.f16]) (by rfl) ?_
  (conv => whnf)
  refine ⟨_, _, nameSpec_c s hs, (by repeat' (first | exact lends_nil | exact lend_dead | apply lends_cons | apply lend_agg | apply lend_one | exact all2_nil | apply all2_cons | exact la_lit rfl | exact la_int (by first | rfl | omega) | exact la_row rfl rfl | exact la_loc rfl rfl rfl (by first | rfl | simp [mkL_length]) (by first | rfl | simp) | exact la_nil rfl | apply la_fn rfl | exact lend_same rfl rfl | exact lend_bor rfl rfl)), ?_⟩; (conv => whnf)
  (split <;> rename_i h <;> (try simp only [decide_eq_true_eq, decide_eq_false_iff_not, Bool.not_eq_true', Bool.not_eq_false', Bool.not_eq_true, Bool.not_eq_false, List.length_map] at h) <;> conv => whnf)
  · (split <;> rename_i h2 <;> (try simp only [decide_eq_true_eq, decide_eq_false_iff_not, Bool.not_eq_true', Bool.not_eq_false', Bool.not_eq_true, Bool.not_eq_false, List.length_map] at h2) <;> conv => whnf)
    · have h60 : nameOk s 60 = true := by rw [nameOk_60, h]; simp [h2]
      (split <;> rename_i h3 <;> (try simp only [decide_eq_true_eq, decide_eq_false_iff_not, Bool.not_eq_true', Bool.not_eq_false', Bool.not_eq_true, Bool.not_eq_false, List.length_map] at h3) <;> conv => whnf)
      · exact ⟨close_bool (by simp [objOk, h60, isTmp]; omega), trivial⟩
      · refine ⟨by simp, by simp, by simp; omega, _, rfl, ?_⟩; (conv => whnf)
        exact ⟨close_bool (by
          have h4 : 2 ≤ s.size := by omega
          simp only [objOk, h60, isTmp, h4, decide_true, Bool.true_and]
          rfl), trivial⟩
    · exact ⟨close_bool (by rw [objOk, nameOk_60, h]; simp [h2]), trivial⟩
  · exact ⟨close_bool (by rw [objOk, nameOk_60, h]; simp), trivial⟩
theorem has_c (d : DDrive) (hd : driveOk d = true) (name : ByteArray) (hl : d.files.length ≤ 4294967296) : Fun1 Tryz.prog 71 [.agg d.enc, .one (.lit (.string name))] (.one (.lit (.bool (hasN d.files name)))) := by
  refine fun1_of_vc tb_ok mix (fn := Tryz.f71) Tryz.func71 rfl (by kernel_rfl) (by kernel_rfl) (by simp [Tryz.f71]) (by rfl) ?_
  (conv => whnf)
  refine ⟨_, _, find_c d hd name hl, (by repeat' (first | exact lends_nil | exact lend_dead | apply lends_cons | apply lend_agg | apply lend_one | exact all2_nil | apply all2_cons | exact la_lit rfl | exact la_int (by first | rfl | omega) | exact la_row rfl rfl | exact la_loc rfl rfl rfl (by first | rfl | simp [mkL_length]) (by first | rfl | simp) | exact la_nil rfl | apply la_fn rfl | exact lend_same rfl rfl | exact lend_bor rfl rfl)), ?_⟩; (conv => whnf)
  exact (by repeat' (first | exact trivial | exact close_int rfl | exact close_str rfl | exact close_bool rfl | exact close_int (by omega) | exact close_row rfl rfl (by first | rfl | simp) (by first | rfl | simp) | exact close_nil (by first | rfl | simp) | exact rfl | apply And.intro | apply closeTs_cons rfl))
theorem findI_nonneg {fs : List DStored} {name : ByteArray} : (0 ≤ findI fs name) ↔ hasN fs name = true := by
  unfold findI; split <;> rename_i h <;> simp [h]
end Go.Proofs.YtdbnppipgblajaaGreatDoor
namespace Go.Proofs.YtdbnppipgblajaaGreatDoor
open Go.RowKit
set_option linter.unusedSimpArgs false
set_option linter.unusedVariables false
set_option maxRecDepth 100000
set_option maxHeartbeats 4000000
def frE (k m i n : Nat) (whole text : ByteArray) : List AV := [vN k, vN m, vN i, vN n, .lit (.string whole), .lit (.string text)]
def headN (k m i n : Nat) (whole : ByteArray) : ByteArray := ⟨#[70]⟩ ++ putN k ++ putN m ++ putN i ++ putN n ++ whole
def frameN (k m i n : Nat) (whole text : ByteArray) : ByteArray := headN k m i n whole ++ digF (headN k m i n whole ++ text) ++ text
theorem one_size (b : UInt8) : (ByteArray.mk #[b]).size = 1 := rfl
theorem headN_size (k m i n : Nat) (whole : ByteArray) : (headN k m i n whole).size ≤ 45 + whole.size := by
  have := putN_size k
  have := putN_size m
  have := putN_size i
  have := putN_size n
  simp only [headN, ByteArray.size_append, one_size]; omega
theorem frameN_size (k m i n : Nat) (whole text : ByteArray) : (frameN k m i n whole text).size ≤ 77 + whole.size + text.size := by
  have := headN_size k m i n whole
  simp only [frameN, ByteArray.size_append, digF_size]; omega
theorem frameImpl_c {k m i n : Nat} {whole text : ByteArray} (hk : k < 1099511627776) (hm : m < 1099511627776) (hi : i < 1099511627776) (hn : n < 1099511627776) (hw : whole.size ≤ 100000) (ht : text.size ≤ 100000) :
    Fun1 Tryz.prog 72 [.agg (frE k m i n whole text)] (.one (.lit (.string (frameN k m i n whole text)))) := by
  have s1 := putN_size k
  have s2 := putN_size m
  have s3 := putN_size i
  have s4 := putN_size n
  have h0 := headN_size k m i n whole
  have hd := digF_size (headN k m i n whole ++ text)
  refine fun1_of_vc tb_ok mix (fn := Tryz.f72) Tryz.func72 rfl (by kernel_rfl) (by kernel_rfl) (by simp [Tryz.f72]) (by rfl) ?_
  (conv => whnf)
  refine ⟨_, _, putImpl_c hk, (by repeat' (first | exact lends_nil | exact lend_dead | apply lends_cons | apply lend_agg | apply lend_one | exact all2_nil | apply all2_cons | exact la_lit rfl | exact la_int (by first | rfl | omega) | exact la_row rfl rfl | exact la_loc rfl rfl rfl (by first | rfl | simp [mkL_length]) (by first | rfl | simp) | exact la_nil rfl | apply la_fn rfl | exact lend_same rfl rfl | exact lend_bor rfl rfl)), ?_⟩; (conv => whnf)
  refine ⟨by rw [one_size]; omega, ?_⟩; (conv => whnf)
  refine ⟨_, _, putImpl_c hm, (by repeat' (first | exact lends_nil | exact lend_dead | apply lends_cons | apply lend_agg | apply lend_one | exact all2_nil | apply all2_cons | exact la_lit rfl | exact la_int (by first | rfl | omega) | exact la_row rfl rfl | exact la_loc rfl rfl rfl (by first | rfl | simp [mkL_length]) (by first | rfl | simp) | exact la_nil rfl | apply la_fn rfl | exact lend_same rfl rfl | exact lend_bor rfl rfl)), ?_⟩; (conv => whnf)
  refine ⟨by simp only [ByteArray.size_append, one_size]; omega, ?_⟩; (conv => whnf)
  refine ⟨_, _, putImpl_c hi, (by repeat' (first | exact lends_nil | exact lend_dead | apply lends_cons | apply lend_agg | apply lend_one | exact all2_nil | apply all2_cons | exact la_lit rfl | exact la_int (by first | rfl | omega) | exact la_row rfl rfl | exact la_loc rfl rfl rfl (by first | rfl | simp [mkL_length]) (by first | rfl | simp) | exact la_nil rfl | apply la_fn rfl | exact lend_same rfl rfl | exact lend_bor rfl rfl)), ?_⟩; (conv => whnf)
  refine ⟨by simp only [ByteArray.size_append, one_size]; omega, ?_⟩; (conv => whnf)
  refine ⟨_, _, putImpl_c hn, (by repeat' (first | exact lends_nil | exact lend_dead | apply lends_cons | apply lend_agg | apply lend_one | exact all2_nil | apply all2_cons | exact la_lit rfl | exact la_int (by first | rfl | omega) | exact la_row rfl rfl | exact la_loc rfl rfl rfl (by first | rfl | simp [mkL_length]) (by first | rfl | simp) | exact la_nil rfl | apply la_fn rfl | exact lend_same rfl rfl | exact lend_bor rfl rfl)), ?_⟩; (conv => whnf)
  refine ⟨by simp only [ByteArray.size_append, one_size]; omega, ?_⟩; (conv => whnf)
  refine ⟨by simp only [ByteArray.size_append, one_size]; omega, ?_⟩
  rw [show ByteArray.mk #[70] ++ putN k ++ putN m ++ putN i ++ putN n ++ whole = headN k m i n whole from rfl]
  (conv => whnf)
  refine ⟨by omega, ?_⟩; (conv => whnf)
  refine ⟨_, _, digImpl_c (headN k m i n whole ++ text) (by rw [ByteArray.size_append]; omega), (by repeat' (first | exact lends_nil | exact lend_dead | apply lends_cons | apply lend_agg | apply lend_one | exact all2_nil | apply all2_cons | exact la_lit rfl | exact la_int (by first | rfl | omega) | exact la_row rfl rfl | exact la_loc rfl rfl rfl (by first | rfl | simp [mkL_length]) (by first | rfl | simp) | exact la_nil rfl | apply la_fn rfl | exact lend_same rfl rfl | exact lend_bor rfl rfl)), ?_⟩; (conv => whnf)
  refine ⟨by rw [hd]; omega, ?_⟩; (conv => whnf)
  refine ⟨by rw [ByteArray.size_append, hd]; omega, ?_⟩; (conv => whnf)
  exact ⟨close_str rfl, trivial⟩
theorem headSpec_c {k m i n : Nat} {whole text : ByteArray} (hk : k < 1099511627776) (hm : m < 1099511627776) (hi : i < 1099511627776) (hn : n < 1099511627776) (hw : whole.size ≤ 100000) :
    Fun1 Tryz.prog 85 [.agg (frE k m i n whole text)] (.one (.lit (.string (headN k m i n whole)))) := by
  have s1 := putN_size k
  have s2 := putN_size m
  have s3 := putN_size i
  have s4 := putN_size n
  refine fun1_of_vc tb_ok mix (fn := Tryz.f85) Tryz.func85 rfl (by kernel_rfl) (by kernel_rfl) (by simp [Tryz.f85]) (by rfl) ?_
  (conv => whnf)
  refine ⟨_, _, putSpec_c hk, (by repeat' (first | exact lends_nil | exact lend_dead | apply lends_cons | apply lend_agg | apply lend_one | exact all2_nil | apply all2_cons | exact la_lit rfl | exact la_int (by first | rfl | omega) | exact la_row rfl rfl | exact la_loc rfl rfl rfl (by first | rfl | simp [mkL_length]) (by first | rfl | simp) | exact la_nil rfl | apply la_fn rfl | exact lend_same rfl rfl | exact lend_bor rfl rfl)), ?_⟩; (conv => whnf)
  refine ⟨by rw [one_size]; omega, ?_⟩; (conv => whnf)
  refine ⟨_, _, putSpec_c hm, (by repeat' (first | exact lends_nil | exact lend_dead | apply lends_cons | apply lend_agg | apply lend_one | exact all2_nil | apply all2_cons | exact la_lit rfl | exact la_int (by first | rfl | omega) | exact la_row rfl rfl | exact la_loc rfl rfl rfl (by first | rfl | simp [mkL_length]) (by first | rfl | simp) | exact la_nil rfl | apply la_fn rfl | exact lend_same rfl rfl | exact lend_bor rfl rfl)), ?_⟩; (conv => whnf)
  refine ⟨by simp only [ByteArray.size_append, one_size]; omega, ?_⟩; (conv => whnf)
  refine ⟨_, _, putSpec_c hi, (by repeat' (first | exact lends_nil | exact lend_dead | apply lends_cons | apply lend_agg | apply lend_one | exact all2_nil | apply all2_cons | exact la_lit rfl | exact la_int (by first | rfl | omega) | exact la_row rfl rfl | exact la_loc rfl rfl rfl (by first | rfl | simp [mkL_length]) (by first | rfl | simp) | exact la_nil rfl | apply la_fn rfl | exact lend_same rfl rfl | exact lend_bor rfl rfl)), ?_⟩; (conv => whnf)
  refine ⟨by simp only [ByteArray.size_append, one_size]; omega, ?_⟩; (conv => whnf)
  refine ⟨_, _, putSpec_c hn, (by repeat' (first | exact lends_nil | exact lend_dead | apply lends_cons | apply lend_agg | apply lend_one | exact all2_nil | apply all2_cons | exact la_lit rfl | exact la_int (by first | rfl | omega) | exact la_row rfl rfl | exact la_loc rfl rfl rfl (by first | rfl | simp [mkL_length]) (by first | rfl | simp) | exact la_nil rfl | apply la_fn rfl | exact lend_same rfl rfl | exact lend_bor rfl rfl)), ?_⟩; (conv => whnf)
  refine ⟨by simp only [ByteArray.size_append, one_size]; omega, ?_⟩; (conv => whnf)
  refine ⟨by simp only [ByteArray.size_append, one_size]; omega, ?_⟩; (conv => whnf)
  exact ⟨close_str rfl, trivial⟩
theorem frRight_c {k m i n : Nat} {whole text : ByteArray} (hk : 1 ≤ k ∧ k ≤ 8) (hm : m ≤ 6) (hi : i < k + m) (hn : n ≤ 12000) (hw : whole.size = 32) (ht : text.size = shN k n) :
    Fun1 Tryz.prog 84 [.agg (frE k m i n whole text)] (.one (.lit (.bool true))) := by
  refine fun1_of_vc tb_ok mix (fn := Tryz.f84) Tryz.func84 rfl (by kernel_rfl) (by kernel_rfl) (by simp [Tryz.f84]) (by rfl) ?_
  (conv => whnf)
  refine ⟨_, _, codeSpec_c k m, (by repeat' (first | exact lends_nil | exact lend_dead | apply lends_cons | apply lend_agg | apply lend_one | exact all2_nil | apply all2_cons | exact la_lit rfl | exact la_int (by first | rfl | omega) | exact la_row rfl rfl | exact la_loc rfl rfl rfl (by first | rfl | simp [mkL_length]) (by first | rfl | simp) | exact la_nil rfl | apply la_fn rfl | exact lend_same rfl rfl | exact lend_bor rfl rfl)), ?_⟩
  rw [codeN hk hm]
  (conv => whnf)
  refine ⟨((k + m : Nat) : Int), by rw [← wrap64_id] <;> omega, ?_⟩; (conv => whnf)
  (split <;> rename_i h1 <;> (try simp only [decide_eq_true_eq, decide_eq_false_iff_not, Bool.not_eq_true', Bool.not_eq_false', Bool.not_eq_true, Bool.not_eq_false, List.length_map] at h1) <;> conv => whnf)
  · (split <;> rename_i h2 <;> (try simp only [decide_eq_true_eq, decide_eq_false_iff_not, Bool.not_eq_true', Bool.not_eq_false', Bool.not_eq_true, Bool.not_eq_false, List.length_map] at h2) <;> conv => whnf)
    · (split <;> rename_i h3 <;> (try simp only [decide_eq_true_eq, decide_eq_false_iff_not, Bool.not_eq_true', Bool.not_eq_false', Bool.not_eq_true, Bool.not_eq_false, List.length_map] at h3) <;> conv => whnf)
      · refine ⟨_, _, shardSpec_c hk (by omega : n ≤ 20000), (by repeat' (first | exact lends_nil | exact lend_dead | apply lends_cons | apply lend_agg | apply lend_one | exact all2_nil | apply all2_cons | exact la_lit rfl | exact la_int (by first | rfl | omega) | exact la_row rfl rfl | exact la_loc rfl rfl rfl (by first | rfl | simp [mkL_length]) (by first | rfl | simp) | exact la_nil rfl | apply la_fn rfl | exact lend_same rfl rfl | exact lend_bor rfl rfl)), ?_⟩; (conv => whnf)
        exact ⟨close_bool (by simp [ht]), trivial⟩
      · exfalso; omega
    · exfalso; omega
  · exfalso; omega
theorem frameSpec_c {k m i n : Nat} {whole text : ByteArray} (hk : 1 ≤ k ∧ k ≤ 8) (hm : m ≤ 6) (hi : i < k + m) (hn : n ≤ 12000) (hw : whole.size = 32) (ht : text.size = shN k n) :
    Fun1 Tryz.prog 59 [.agg (frE k m i n whole text)] (.one (.lit (.string (frameN k m i n whole text)))) := by
  have h0 := headN_size k m i n whole
  have hd := digF_size (headN k m i n whole ++ text)
  have hts := (shN_bounds (size := n) hk.1).2.2
  refine fun1_of_vc tb_ok mix (fn := Tryz.f59) Tryz.func59 rfl (by kernel_rfl) (by kernel_rfl) (by simp [Tryz.f59]) (by rfl) ?_
  (conv => whnf)
  refine ⟨_, _, frRight_c hk hm hi hn hw ht, (by repeat' (first | exact lends_nil | exact lend_dead | apply lends_cons | apply lend_agg | apply lend_one | exact all2_nil | apply all2_cons | exact la_lit rfl | exact la_int (by first | rfl | omega) | exact la_row rfl rfl | exact la_loc rfl rfl rfl (by first | rfl | simp [mkL_length]) (by first | rfl | simp) | exact la_nil rfl | apply la_fn rfl | exact lend_same rfl rfl | exact lend_bor rfl rfl)), ?_⟩; (conv => whnf)
  refine ⟨_, _, headSpec_c (text := text) (by omega : k < 1099511627776) (by omega : m < 1099511627776) (by omega : i < 1099511627776) (by omega : n < 1099511627776) (by omega : whole.size ≤ 100000), (by repeat' (first | exact lends_nil | exact lend_dead | apply lends_cons | apply lend_agg | apply lend_one | exact all2_nil | apply all2_cons | exact la_lit rfl | exact la_int (by first | rfl | omega) | exact la_row rfl rfl | exact la_loc rfl rfl rfl (by first | rfl | simp [mkL_length]) (by first | rfl | simp) | exact la_nil rfl | apply la_fn rfl | exact lend_same rfl rfl | exact lend_bor rfl rfl)), ?_⟩; (conv => whnf)
  refine ⟨_, _, l09Digest_c (headN k m i n whole) text (by omega) (by omega), (by repeat' (first | exact lends_nil | exact lend_dead | apply lends_cons | apply lend_agg | apply lend_one | exact all2_nil | apply all2_cons | exact la_lit rfl | exact la_int (by first | rfl | omega) | exact la_row rfl rfl | exact la_loc rfl rfl rfl (by first | rfl | simp [mkL_length]) (by first | rfl | simp) | exact la_nil rfl | apply la_fn rfl | exact lend_same rfl rfl | exact lend_bor rfl rfl)), ?_⟩; (conv => whnf)
  refine ⟨by rw [hd]; omega, ?_⟩; (conv => whnf)
  refine ⟨by rw [ByteArray.size_append, hd]; omega, ?_⟩; (conv => whnf)
  exact ⟨close_str rfl, trivial⟩
/-- The file of a tag. -/
def tagN (tag : Nat) (name : ByteArray) : ByteArray := ⟨#[116, 45]⟩ ++ txtOf [UInt8.ofNat (48 + tag)] ++ ⟨#[45]⟩ ++ name
theorem tagN_size (tag : Nat) (name : ByteArray) : (tagN tag name).size = 4 + name.size := by
  simp only [tagN, ByteArray.size_append, txtOf_size, one_size, show (ByteArray.mk #[116, 45]).size = 2 from rfl, List.length_singleton]
theorem tagImpl_c {tag : Nat} {name : ByteArray} (ht : tag ≤ 9) (hn : name.size ≤ 100000) : Fun1 Tryz.prog 44 [.one (vN tag), .one (.lit (.string name))] (.one (.lit (.string (tagN tag name)))) := by
  refine fun1_of_vc tb_ok mix (fn := Tryz.f44) Tryz.func44 rfl (by kernel_rfl) (by kernel_rfl) (by simp [Tryz.f44]) (by rfl) ?_
  (conv => whnf)
  refine ⟨(tag : Int), by rw [IntKind.wrap_u8]; omega, ?_⟩; (conv => whnf)
  refine ⟨((UInt8.ofNat (48 + tag)).toNat : Int), by rw [← u8_wrapI]; congr 1, ?_⟩; (conv => whnf)
  refine ⟨true, _, [UInt8.ofNat (48 + tag)], ⟨rfl, by simp [chunk], rfl, rfl⟩, rfl, ?_⟩; (conv => whnf)
  refine ⟨by show 2 + 1 ≤ 9223372036854775807; decide, ?_⟩; (conv => whnf)
  refine ⟨by rw [ByteArray.size_append]; show 2 + 1 + 1 ≤ 9223372036854775807; decide, ?_⟩; (conv => whnf)
  refine ⟨by simp only [ByteArray.size_append, one_size]; show 2 + 1 + 1 + _ ≤ _; omega, ?_⟩; (conv => whnf)
  exact ⟨close_str rfl, trivial⟩
theorem dec_c {tag : Nat} (ht : tag ≤ 9) : Fun1 Tryz.prog 80 [.one (vN tag)] (.one (.lit (.string (txtOf [UInt8.ofNat (48 + tag)])))) := by
  refine fun1_of_vc tb_ok mix (fn := Tryz.f80) Tryz.func80 rfl (by kernel_rfl) (by kernel_rfl) (by simp [Tryz.f80]) (by rfl) ?_
  (conv => whnf)
  (split <;> rename_i h <;> (try simp only [decide_eq_true_eq, decide_eq_false_iff_not, Bool.not_eq_true', Bool.not_eq_false', Bool.not_eq_true, Bool.not_eq_false, List.length_map] at h) <;> conv => whnf)
  · obtain rfl : tag = 0 := by omega
    exact ⟨close_str rfl, trivial⟩
  · refine ⟨LG (fun p : Nat × ByteArray => p = (tag, ByteArray.empty) ∨ p = (0, txtOf [UInt8.ofNat (48 + tag)])) (fun p => p.1) (fun p => AS.of [(0, .one (vN p.1)), (3, .one (.lit (.bool false))), (4, .one (.lit (.string p.2)))] []),
      lg_init (tag, .empty) (.inl rfl) (weak_of (all_cons rfl (all_cons (eq_bool rfl (by simp)) (all_cons rfl all_nil))) all_nil rfl rfl), ?_⟩
    rintro σ k ⟨⟨n, o⟩, hI, hk, rfl⟩
    simp only [Prod.mk.injEq] at hI hk
    refine ⟨_, Weak.refl _, ?_⟩
    (conv => whnf)
    (split <;> rename_i h2 <;> (try simp only [decide_eq_true_eq, decide_eq_false_iff_not, Bool.not_eq_true', Bool.not_eq_false', Bool.not_eq_true, Bool.not_eq_false, List.length_map] at h2) <;> conv => whnf)
    · obtain ⟨rfl, rfl⟩ := hI.resolve_right (fun e => h2 (by rw [e.1]; rfl))
      refine ⟨by decide, (n : Int), by show _ = (n : Int).tmod 10; rw [Int.tmod_eq_emod_of_nonneg (by omega)]; omega, ?_⟩; (conv => whnf)
      refine ⟨((48 + n : Nat) : Int), by rw [← wrap64_id] <;> omega, ?_⟩; (conv => whnf)
      refine ⟨_, (u8_wrapI (48 + n)).symm, ?_⟩; (conv => whnf)
      refine ⟨true, _, [UInt8.ofNat (48 + n)], ⟨rfl, by simp [chunk], rfl, rfl⟩, rfl, ?_⟩; (conv => whnf)
      refine ⟨by show 1 + 0 ≤ 9223372036854775807; decide, ?_⟩; (conv => whnf)
      refine ⟨by decide, 0, by show _ = IntKind.i64.wrap ((n : Int).tdiv 10); rw [show (n : Int).tdiv 10 = ((n / 10 : Nat) : Int) from rfl, show n / 10 = 0 by omega]; rfl, ?_⟩; (conv => whnf)
      exact lg_back (0, txtOf [UInt8.ofNat (48 + n)]) (.inr rfl) (by show 0 < k; omega) (weak_of (all_cons rfl (all_cons rfl (all_cons (eq_str rfl (by apply ByteArray.ext; apply Array.ext'; simp [txtOf])) all_nil))) all_nil rfl rfl)
    · have ho : o = txtOf [UInt8.ofNat (48 + tag)] := by
        rcases hI with e | e
        · exfalso; rw [e.1] at h2; omega
        · exact e.2
      exact ⟨close_str ho.symm, trivial⟩
theorem temp_c {tag : Nat} {name : ByteArray} (ht : tag ≤ 9) (hn : name.size ≤ 100000) : Fun1 Tryz.prog 56 [.one (vN tag), .one (.lit (.string name))] (.one (.lit (.string (tagN tag name)))) := by
  refine fun1_of_vc tb_ok mix (fn := Tryz.f56) Tryz.func56 rfl (by kernel_rfl) (by kernel_rfl) (by simp [Tryz.f56]) (by rfl) ?_
  (conv => whnf)
  refine ⟨_, _, dec_c ht, (by repeat' (first | exact lends_nil | exact lend_dead | apply lends_cons | apply lend_agg | apply lend_one | exact all2_nil | apply all2_cons | exact la_lit rfl | exact la_int (by first | rfl | omega) | exact la_row rfl rfl | exact la_loc rfl rfl rfl (by first | rfl | simp [mkL_length]) (by first | rfl | simp) | exact la_nil rfl | apply la_fn rfl | exact lend_same rfl rfl | exact lend_bor rfl rfl)), ?_⟩; (conv => whnf)
  refine ⟨by show 2 + 1 ≤ 9223372036854775807; decide, ?_⟩; (conv => whnf)
  refine ⟨by rw [ByteArray.size_append]; show 2 + 1 + 1 ≤ 9223372036854775807; decide, ?_⟩; (conv => whnf)
  refine ⟨by simp only [ByteArray.size_append, one_size]; show 2 + 1 + 1 + _ ≤ _; omega, ?_⟩; (conv => whnf)
  exact ⟨close_str rfl, trivial⟩
def tagOk (tag : Int) : Bool := decide (0 ≤ tag) && decide (tag ≤ 9)
theorem isTag_c (tag : Int) : Fun1 Tryz.prog 21 [.one (.lit (.int .i64 tag))] (.one (.lit (.bool (tagOk tag)))) := by
  refine fun1_of_vc tb_ok mix (fn := Tryz.f21) Tryz.func21 rfl (by kernel_rfl) (by kernel_rfl) (by simp [Tryz.f21]) (by rfl) ?_
  (conv => whnf)
  refine ⟨_, _, within_c tag 0 9, (by repeat' (first | exact lends_nil | exact lend_dead | apply lends_cons | apply lend_agg | apply lend_one | exact all2_nil | apply all2_cons | exact la_lit rfl | exact la_int (by first | rfl | omega) | exact la_row rfl rfl | exact la_loc rfl rfl rfl (by first | rfl | simp [mkL_length]) (by first | rfl | simp) | exact la_nil rfl | apply la_fn rfl | exact lend_same rfl rfl | exact lend_bor rfl rfl)), ?_⟩; (conv => whnf)
  exact ⟨close_bool rfl, trivial⟩
theorem l09Tag_c (tag : Int) : Fun1 Tryz.prog 15 [.one (.lit (.int .i64 tag))] (.one (.lit (.bool (tagOk tag)))) := by
  refine fun1_of_vc tb_ok mix (fn := Tryz.f15) Tryz.func15 rfl (by kernel_rfl) (by kernel_rfl) (by simp [Tryz.f15]) (by rfl) ?_
  (conv => whnf)
  (repeat' (split <;> rename_i hb <;> (try simp only [decide_eq_true_eq, decide_eq_false_iff_not, Bool.not_eq_true', Bool.not_eq_false', Bool.not_eq_true, Bool.not_eq_false, List.length_map] at hb) <;> conv => whnf))
  all_goals exact ⟨close_bool (by simp [tagOk, *]), trivial⟩
end Go.Proofs.YtdbnppipgblajaaGreatDoor
namespace Go.Proofs.YtdbnppipgblajaaGreatDoor
open Go.RowKit
set_option linter.unusedSimpArgs false
set_option linter.unusedVariables false
set_option maxRecDepth 100000
set_option maxHeartbeats 4000000
def wrStep (i : Nat) (file fr : ByteArray) : DStep := ⟨(i : Nat), ⟨1, file, .empty, fr⟩⟩
def syStep (i : Nat) (file : ByteArray) : DStep := ⟨(i : Nat), ⟨2, file, .empty, .empty⟩⟩
def rnStep (i : Nat) (file name : ByteArray) : DStep := ⟨(i : Nat), ⟨3, file, name, .empty⟩⟩
def wrS (k m n : Nat) (file whole shard : ByteArray) (i : Nat) (d : DDrive) : List DStep :=
  (if hasN d.files file = true then [rmStep i file] else []) ++ [wrStep i file (frameN k m i n whole shard), syStep i file]
theorem wrS_len (k m n : Nat) (file whole shard : ByteArray) (i : Nat) (d : DDrive) : (wrS k m n file whole shard i d).length ≤ 3 := by
  unfold wrS; split <;> simp
theorem writeImpl_c {k m i : Nat} {ds : List DDrive} {file text whole shard : ByteArray} (hk : k ≤ 8) (hm : m ≤ 6) (hi : i < ds.length) (hi2 : i ≤ 100) (hd : driveOk ds[i] = true) (hl : ds[i].files.length ≤ 4294967296) (hf : file.size ≤ 100000) (ht : text.size ≤ 20000) (hw : whole.size ≤ 100000) (hs : shard.size ≤ 100000) :
    Fun1 Tryz.prog 47 [.agg (DArray.enc ⟨k, m, ds⟩), .one (vN i), .one (.lit (.string file)), .one (.lit (.string text)), .one (.lit (.string whole)), .one (.lit (.string shard))]
      (.one (.row true 5 ((wrS k m text.size file whole shard i ds[i]).map DStep.enc))) := by
  have cF := frameImpl_c (k := k) (m := m) (i := i) (n := text.size) (whole := whole) (text := shard) (by omega) (by omega) (by omega) (by omega) hw hs
  refine fun1_of_vc tb_ok mix (fn := Tryz.f47) Tryz.func47 rfl (by kernel_rfl) (by kernel_rfl) (by simp [Tryz.f47]) (by show AV.nb (4 + 1) _ = true; exact nb_map (n := 4) (fun y => DStep.enc_nbn 4 y) _) ?_
  (conv => whnf)
  refine ⟨i, rfl, _, at_map hi, ?_⟩; (conv => whnf)
  refine ⟨_, _, has_c ds[i] hd file hl, (by repeat' (first | exact lends_nil | exact lend_dead | apply lends_cons | apply lend_agg | apply lend_one | exact all2_nil | apply all2_cons | exact la_lit rfl | exact la_int (by first | rfl | omega) | exact la_row rfl rfl | exact la_loc rfl rfl rfl (by first | rfl | simp [mkL_length]) (by first | rfl | simp) | exact la_nil rfl | apply la_fn rfl | exact lend_same rfl rfl | exact lend_bor rfl rfl)), ?_⟩; (conv => whnf)
  (split <;> rename_i h <;> (try simp only [decide_eq_true_eq, decide_eq_false_iff_not, Bool.not_eq_true', Bool.not_eq_false', Bool.not_eq_true, Bool.not_eq_false, List.length_map] at h) <;> conv => whnf)
  · have hr : wrS k m text.size file whole shard i ds[i] = [rmStep i file, wrStep i file (frameN k m i text.size whole shard), syStep i file] := by rw [wrS, if_pos h]; rfl
    rw [hr]
    refine ⟨true, [(rmStep i file).enc], ⟨rfl, by simp [chunk], rfl, rfl⟩, ?_⟩; (conv => whnf)
    refine ⟨_, rfl, rfl, by simp [maxLen], by simp, ?_⟩; (conv => whnf)
    refine ⟨_, _, long_c text, (by repeat' (first | exact lends_nil | exact lend_dead | apply lends_cons | apply lend_agg | apply lend_one | exact all2_nil | apply all2_cons | exact la_lit rfl | exact la_int (by first | rfl | omega) | exact la_row rfl rfl | exact la_loc rfl rfl rfl (by first | rfl | simp [mkL_length]) (by first | rfl | simp) | exact la_nil rfl | apply la_fn rfl | exact lend_same rfl rfl | exact lend_bor rfl rfl)), ?_⟩; (conv => whnf)
    refine ⟨_, _, cF, (by repeat' (first | exact lends_nil | exact lend_dead | apply lends_cons | apply lend_agg | apply lend_one | exact all2_nil | apply all2_cons | exact la_lit rfl | exact la_int (by first | rfl | omega) | exact la_row rfl rfl | exact la_loc rfl rfl rfl (by first | rfl | simp [mkL_length]) (by first | rfl | simp) | exact la_nil rfl | apply la_fn rfl | exact lend_same rfl rfl | exact lend_bor rfl rfl)), ?_⟩; (conv => whnf)
    refine ⟨true, [(wrStep i file (frameN k m i text.size whole shard)).enc, (syStep i file).enc], ⟨rfl, by simp [chunk], rfl, rfl⟩, ?_⟩; (conv => whnf)
    refine ⟨_, rfl, rfl, by simp [chunk, laid], rfl, by simp [maxLen, chunk, laid], by simp [chunk, laid], ?_⟩; (conv => whnf)
    exact ⟨close_row rfl rfl rfl rfl, trivial⟩
  · have hr : wrS k m text.size file whole shard i ds[i] = [wrStep i file (frameN k m i text.size whole shard), syStep i file] := by rw [wrS, if_neg (by simp [h])]; rfl
    rw [hr]
    refine ⟨_, _, long_c text, (by repeat' (first | exact lends_nil | exact lend_dead | apply lends_cons | apply lend_agg | apply lend_one | exact all2_nil | apply all2_cons | exact la_lit rfl | exact la_int (by first | rfl | omega) | exact la_row rfl rfl | exact la_loc rfl rfl rfl (by first | rfl | simp [mkL_length]) (by first | rfl | simp) | exact la_nil rfl | apply la_fn rfl | exact lend_same rfl rfl | exact lend_bor rfl rfl)), ?_⟩; (conv => whnf)
    refine ⟨_, _, cF, (by repeat' (first | exact lends_nil | exact lend_dead | apply lends_cons | apply lend_agg | apply lend_one | exact all2_nil | apply all2_cons | exact la_lit rfl | exact la_int (by first | rfl | omega) | exact la_row rfl rfl | exact la_loc rfl rfl rfl (by first | rfl | simp [mkL_length]) (by first | rfl | simp) | exact la_nil rfl | apply la_fn rfl | exact lend_same rfl rfl | exact lend_bor rfl rfl)), ?_⟩; (conv => whnf)
    refine ⟨true, [(wrStep i file (frameN k m i text.size whole shard)).enc, (syStep i file).enc], ⟨rfl, by simp [chunk], rfl, rfl⟩, ?_⟩; (conv => whnf)
    refine ⟨_, rfl, rfl, by simp [maxLen], by simp, ?_⟩; (conv => whnf)
    exact ⟨close_row rfl rfl rfl rfl, trivial⟩
theorem writeSpec_c {k m i tag : Nat} {ds : List DDrive} {name text : ByteArray} {shards : List ByteArray} (hk : 1 ≤ k ∧ k ≤ 8) (hm : m ≤ 6) (hi : i < ds.length) (hi2 : i < k + m) (hl : ds[i].files.length ≤ 4294967296) (htag : tag ≤ 9) (hn : name.size ≤ 90000) (ht : text.size ≤ 12000)
    (hsi : i < shards.length) (hs : shards[i].size = shN k text.size) :
    Fun1 Tryz.prog 33 [.agg (DArray.enc ⟨k, m, ds⟩), .one (vN tag), .one (.lit (.string name)), .one (.lit (.string text)), .one (.row true 1 (shards.map eStr)), .one (vN i)]
      (.one (.row true 5 ((wrS k m text.size (tagN tag name) (digF text) shards[i] i ds[i]).map DStep.enc))) := by
  have cF := frameSpec_c (k := k) (m := m) (i := i) (n := text.size) (whole := digF text) (text := shards[i]) hk hm hi2 ht (digF_size text) hs
  have cD := digestSpec_c text (by omega)
  rw [if_pos (by omega)] at cD
  obtain ⟨file, hfile⟩ : ∃ f, tagN tag name = f := ⟨_, rfl⟩
  have cT := temp_c (name := name) htag (by omega)
  rw [hfile] at cT ⊢
  obtain ⟨whole, hwh⟩ : ∃ f, digF text = f := ⟨_, rfl⟩
  rw [hwh] at cF cD ⊢
  obtain ⟨shard, hsh⟩ : ∃ f, shards[i] = f := ⟨_, rfl⟩
  have hat : (shards.map eStr)[i]? = some (eStr shard) := by rw [← hsh]; exact at_map hsi
  rw [hsh] at cF ⊢
  refine fun1_of_vc tb_ok mix (fn := Tryz.f33) Tryz.func33 rfl (by kernel_rfl) (by kernel_rfl) (by simp [Tryz.f33]) (by show AV.nb (4 + 1) _ = true; exact nb_map (n := 4) (fun y => DStep.enc_nbn 4 y) _) ?_
  (conv => whnf)
  refine ⟨_, _, cT, (by repeat' (first | exact lends_nil | exact lend_dead | apply lends_cons | apply lend_agg | apply lend_one | exact all2_nil | apply all2_cons | exact la_lit rfl | exact la_int (by first | rfl | omega) | exact la_row rfl rfl | exact la_loc rfl rfl rfl (by first | rfl | simp [mkL_length]) (by first | rfl | simp) | exact la_nil rfl | apply la_fn rfl | exact lend_same rfl rfl | exact lend_bor rfl rfl)), ?_⟩; (conv => whnf)
  refine ⟨i, rfl, _, at_map hi, ?_⟩; (conv => whnf)
  refine ⟨_, _, l08Find_c ds[i] file hl, (by repeat' (first | exact lends_nil | exact lend_dead | apply lends_cons | apply lend_agg | apply lend_one | exact all2_nil | apply all2_cons | exact la_lit rfl | exact la_int (by first | rfl | omega) | exact la_row rfl rfl | exact la_loc rfl rfl rfl (by first | rfl | simp [mkL_length]) (by first | rfl | simp) | exact la_nil rfl | apply la_fn rfl | exact lend_same rfl rfl | exact lend_bor rfl rfl)), ?_⟩; (conv => whnf)
  (split <;> rename_i h <;> (try simp only [decide_eq_true_eq, decide_eq_false_iff_not, Bool.not_eq_true', Bool.not_eq_false', Bool.not_eq_true, Bool.not_eq_false, List.length_map] at h) <;> conv => whnf)
  · have hr : wrS k m text.size file whole shard i ds[i] = [rmStep i file, wrStep i file (frameN k m i text.size whole shard), syStep i file] := by rw [wrS, if_pos (findI_nonneg.1 h)]; rfl
    rw [hr]
    refine ⟨true, [(rmStep i file).enc], ⟨rfl, by simp [chunk], rfl, rfl⟩, ?_⟩; (conv => whnf)
    refine ⟨_, rfl, rfl, by simp [chunk, laid], rfl, by simp [maxLen, chunk, laid], by simp [chunk, laid], ?_⟩; (conv => whnf)
    refine ⟨_, _, cD, (by repeat' (first | exact lends_nil | exact lend_dead | apply lends_cons | apply lend_agg | apply lend_one | exact all2_nil | apply all2_cons | exact la_lit rfl | exact la_int (by first | rfl | omega) | exact la_row rfl rfl | exact la_loc rfl rfl rfl (by first | rfl | simp [mkL_length]) (by first | rfl | simp) | exact la_nil rfl | apply la_fn rfl | exact lend_same rfl rfl | exact lend_bor rfl rfl)), ?_⟩; (conv => whnf)
    refine ⟨i, rfl, _, hat, ?_⟩; (conv => whnf)
    refine ⟨_, _, cF, (by repeat' (first | exact lends_nil | exact lend_dead | apply lends_cons | apply lend_agg | apply lend_one | exact all2_nil | apply all2_cons | exact la_lit rfl | exact la_int (by first | rfl | omega) | exact la_row rfl rfl | exact la_loc rfl rfl rfl (by first | rfl | simp [mkL_length]) (by first | rfl | simp) | exact la_nil rfl | apply la_fn rfl | exact lend_same rfl rfl | exact lend_bor rfl rfl)), ?_⟩; (conv => whnf)
    refine ⟨true, [(wrStep i file (frameN k m i text.size whole shard)).enc], ⟨rfl, by simp [chunk], rfl, rfl⟩, ?_⟩; (conv => whnf)
    refine ⟨_, rfl, rfl, by simp [chunk, laid], rfl, by simp [maxLen, chunk, laid], by simp [chunk, laid], ?_⟩; (conv => whnf)
    refine ⟨true, [(syStep i file).enc], ⟨rfl, by simp [chunk], rfl, rfl⟩, ?_⟩; (conv => whnf)
    refine ⟨_, rfl, rfl, by simp [chunk, laid], rfl, by simp [maxLen, chunk, laid], by simp [chunk, laid], ?_⟩; (conv => whnf)
    exact ⟨close_row rfl rfl rfl rfl, trivial⟩
  · have hr : wrS k m text.size file whole shard i ds[i] = [wrStep i file (frameN k m i text.size whole shard), syStep i file] := by rw [wrS, if_neg (fun e => h (findI_nonneg.2 e))]; rfl
    rw [hr]
    refine ⟨_, _, cD, (by repeat' (first | exact lends_nil | exact lend_dead | apply lends_cons | apply lend_agg | apply lend_one | exact all2_nil | apply all2_cons | exact la_lit rfl | exact la_int (by first | rfl | omega) | exact la_row rfl rfl | exact la_loc rfl rfl rfl (by first | rfl | simp [mkL_length]) (by first | rfl | simp) | exact la_nil rfl | apply la_fn rfl | exact lend_same rfl rfl | exact lend_bor rfl rfl)), ?_⟩; (conv => whnf)
    refine ⟨i, rfl, _, hat, ?_⟩; (conv => whnf)
    refine ⟨_, _, cF, (by repeat' (first | exact lends_nil | exact lend_dead | apply lends_cons | apply lend_agg | apply lend_one | exact all2_nil | apply all2_cons | exact la_lit rfl | exact la_int (by first | rfl | omega) | exact la_row rfl rfl | exact la_loc rfl rfl rfl (by first | rfl | simp [mkL_length]) (by first | rfl | simp) | exact la_nil rfl | apply la_fn rfl | exact lend_same rfl rfl | exact lend_bor rfl rfl)), ?_⟩; (conv => whnf)
    refine ⟨true, [(wrStep i file (frameN k m i text.size whole shard)).enc], ⟨rfl, by simp [chunk], rfl, rfl⟩, ?_⟩; (conv => whnf)
    refine ⟨_, rfl, rfl, by simp [chunk, laid], rfl, by simp [maxLen, chunk, laid], by simp [chunk, laid], ?_⟩; (conv => whnf)
    refine ⟨true, [(syStep i file).enc], ⟨rfl, by simp [chunk], rfl, rfl⟩, ?_⟩; (conv => whnf)
    refine ⟨_, rfl, rfl, by simp [chunk, laid], rfl, by simp [maxLen, chunk, laid], by simp [chunk, laid], ?_⟩; (conv => whnf)
    exact ⟨close_row rfl rfl rfl rfl, trivial⟩
theorem rename_c {tag i : Nat} {name : ByteArray} (htag : tag ≤ 9) (hn : name.size ≤ 90000) : Fun1 Tryz.prog 34 [.one (vN tag), .one (.lit (.string name)), .one (vN i)] (.agg (rnStep i (tagN tag name) name).enc) := by
  refine fun1_of_vc tb_ok mix (fn := Tryz.f34) Tryz.func34 rfl (by kernel_rfl) (by kernel_rfl) (by simp [Tryz.f34]) (by rfl) ?_
  (conv => whnf)
  refine ⟨_, _, temp_c (name := name) htag (by omega), (by repeat' (first | exact lends_nil | exact lend_dead | apply lends_cons | apply lend_agg | apply lend_one | exact all2_nil | apply all2_cons | exact la_lit rfl | exact la_int (by first | rfl | omega) | exact la_row rfl rfl | exact la_loc rfl rfl rfl (by first | rfl | simp [mkL_length]) (by first | rfl | simp) | exact la_nil rfl | apply la_fn rfl | exact lend_same rfl rfl | exact lend_bor rfl rfl)), ?_⟩; (conv => whnf)
  exact ⟨close_int rfl, close_int rfl, close_str rfl, close_str rfl, close_str rfl, trivial⟩
end Go.Proofs.YtdbnppipgblajaaGreatDoor
namespace Go.Proofs.YtdbnppipgblajaaGreatDoor
open Go.RowKit
set_option linter.unusedSimpArgs false
set_option linter.unusedVariables false
set_option maxRecDepth 100000
set_option maxHeartbeats 4000000
def putF (k m n : Nat) (file whole : ByteArray) (shards : List ByteArray) (i : Nat) (d : DDrive) : List DStep := wrS k m n file whole (shards.getD i .empty) i d
theorem putF_len (k m n : Nat) (file whole : ByteArray) (shards : List ByteArray) (i : Nat) (d : DDrive) : (putF k m n file whole shards i d).length ≤ 3 := wrS_len _ _ _ _ _ _ _ _
theorem sum_three {α : Type} (l : List α) : (l.map fun _ => 3).sum = 3 * l.length := by induction l with | nil => rfl | cons x l ih => simp only [List.map_cons, List.sum_cons, List.length_cons, ih]; omega
def putA (k m : Nat) (ds : List DDrive) (tag : Nat) (name text : ByteArray) : List DStep := accI (putF k m text.size (tagN tag name) (digF text) (encN k m text)) 0 ds
def putL (k m : Nat) (ds : List DDrive) (tag : Nat) (name text : ByteArray) : List DStep := putA k m ds tag name text ++ (List.range ds.length).map fun i => rnStep i (tagN tag name) name
theorem encN_len (k m : Nat) (t : ByteArray) : (encN k m t).length = k + m := by simp [encN, combN]
theorem encN_size {k m : Nat} {t : ByteArray} : ∀ x ∈ encN k m t, x.size = shN k t.size := by
  intro x hx
  obtain ⟨i, _, rfl⟩ := List.mem_map.1 hx
  rw [txtOf_size, lineN_len]
theorem putImpl2_c {k m tag : Nat} {ds : List DDrive} {name text : ByteArray} (hk : 1 ≤ k ∧ k ≤ 8) (hm : m ≤ 6) (hdl : ds.length = k + m) (hd : ∀ d ∈ ds, driveOk d = true) (hl : ∀ d ∈ ds, d.files.length ≤ 4294967296) (htag : tag ≤ 9) (hn : name.size ≤ 90000) (ht : text.size ≤ 12000) :
    Fun1 Tryz.prog 23 [.agg (DArray.enc ⟨k, m, ds⟩), .one (vN tag), .one (.lit (.string name)), .one (.lit (.string text))] (.one (.row true 5 ((putL k m ds tag name text).map DStep.enc))) := by
  have hb := shN_bounds (size := text.size) hk.1
  have cT := tagImpl_c (name := name) htag (by omega)
  have hfs := tagN_size tag name
  have cD := digImpl_c text (by omega)
  have hws := digF_size text
  have cE := encImpl_c hk hm (by omega : text.size ≤ 20000)
  have hel := encN_len k m text
  have hes := @encN_size k m text
  have hA : putL k m ds tag name text = accI (putF k m text.size (tagN tag name) (digF text) (encN k m text)) 0 ds ++ (List.range ds.length).map fun i => rnStep i (tagN tag name) name := rfl
  rw [hA]
  obtain ⟨file, hfile⟩ : ∃ f, tagN tag name = f := ⟨_, rfl⟩
  obtain ⟨whole, hwh⟩ : ∃ f, digF text = f := ⟨_, rfl⟩
  obtain ⟨sh, hsh⟩ : ∃ f, encN k m text = f := ⟨_, rfl⟩
  rw [hfile] at cT hfs
  rw [hwh] at cD hws
  rw [hsh] at cE hel hes
  rw [hfile, hwh, hsh]
  obtain ⟨n, hn0⟩ : ∃ n, text.size = n := ⟨_, rfl⟩
  have hal : ∀ i, (accI (putF k m n file whole sh) 0 (ds.take i)).length ≤ 42 := fun i => by
    have := accI_len_le (f := putF k m n file whole sh) (g := fun _ => 3) (putF_len k m n file whole sh) ds i
    rw [sum_three] at this; omega
  rw [hn0]
  refine fun1_of_vc tb_ok mix (fn := Tryz.f23) Tryz.func23 rfl (by kernel_rfl) (by kernel_rfl) (by simp [Tryz.f23]) (by show AV.nb (4 + 1) _ = true; exact nb_map (n := 4) (fun y => DStep.enc_nbn 4 y) _) ?_
  (conv => whnf)
  refine ⟨_, _, cT, (by repeat' (first | exact lends_nil | exact lend_dead | apply lends_cons | apply lend_agg | apply lend_one | exact all2_nil | apply all2_cons | exact la_lit rfl | exact la_int (by first | rfl | omega) | exact la_row rfl rfl | exact la_loc rfl rfl rfl (by first | rfl | simp [mkL_length]) (by first | rfl | simp) | exact la_nil rfl | apply la_fn rfl | exact lend_same rfl rfl | exact lend_bor rfl rfl)), ?_⟩; (conv => whnf)
  refine ⟨_, _, cD, (by repeat' (first | exact lends_nil | exact lend_dead | apply lends_cons | apply lend_agg | apply lend_one | exact all2_nil | apply all2_cons | exact la_lit rfl | exact la_int (by first | rfl | omega) | exact la_row rfl rfl | exact la_loc rfl rfl rfl (by first | rfl | simp [mkL_length]) (by first | rfl | simp) | exact la_nil rfl | apply la_fn rfl | exact lend_same rfl rfl | exact lend_bor rfl rfl)), ?_⟩; (conv => whnf)
  refine ⟨_, _, cE, (by repeat' (first | exact lends_nil | exact lend_dead | apply lends_cons | apply lend_agg | apply lend_one | exact all2_nil | apply all2_cons | exact la_lit rfl | exact la_int (by first | rfl | omega) | exact la_row rfl rfl | exact la_loc rfl rfl rfl (by first | rfl | simp [mkL_length]) (by first | rfl | simp) | exact la_nil rfl | apply la_fn rfl | exact lend_same rfl rfl | exact lend_bor rfl rfl)), ?_⟩; (conv => whnf)
  refine ⟨LG (fun i : Nat => i ≤ k + m) (fun i => k + m - i) (fun i => AS.of [(2, .one (.lit (.string name))), (3, .one (.lit (.string text))), (4, .one (.ptr 64 0)), (9, .one (.lit (.string file))), (10, .one (.lit (.string whole))), (11, .one (.loc 640 0 (accI (putF k m n file whole sh) 0 (ds.take i)).length)), (25, .one (.loc 400 0 (k + m))), (26, .one (vN (k + m : Nat))), (27, .one (vN i))]
    [(64, .var (DArray.enc ⟨k, m, ds⟩)), (400, .row true 1 (sh.map eStr)), (640, .row true 5 ((accI (putF k m n file whole sh) 0 (ds.take i)).map DStep.enc))]),
    lg_init 0 (by omega) (weak_nil 11 640 5 rfl rfl (weak_of (all_cons rfl (all_cons rfl (all_cons rfl (all_cons rfl (all_cons rfl (all_cons rfl (all_cons (eq_loc rfl (by rw [List.length_map, hel])) (all_cons (eq_int rfl (by rw [List.length_map, hel])) (all_cons rfl all_nil))))))))) (by repeat (first | refine all_cons (by first | rfl | exact eq_int rfl (by first | rfl | omega | (simp; done) | (simp; omega)) | exact eq_loc rfl (by first | rfl | omega | (simp; done) | (simp; omega)) | exact eq_bool rfl (by simp_all)) ?_ | exact all_nil)) rfl rfl)), ?_⟩
  rintro σ j ⟨i, hi, rfl, rfl⟩
  have hai := hal i
  refine ⟨_, Weak.refl _, ?_⟩
  (conv => whnf)
  (split <;> rename_i h <;> (try simp only [decide_eq_true_eq, decide_eq_false_iff_not, Bool.not_eq_true', Bool.not_eq_false', Bool.not_eq_true, Bool.not_eq_false, List.length_map] at h) <;> conv => whnf)
  · have hlt : i < ds.length := by omega
    have hls : i < sh.length := by omega
    have hts := accI_take_succ (f := putF k m n file whole sh) hlt
    have hai1 := hal (i + 1)
    have hgd : sh.getD i .empty = sh[i] := by rw [List.getD_eq_getElem?_getD, List.getElem?_eq_getElem hls]; rfl
    have cW := writeImpl_c (k := k) (m := m) (i := i) (ds := ds) (file := file) (text := text) (whole := whole) (shard := sh[i]) hk.2 hm hlt (by omega) (hd _ (List.getElem_mem hlt)) (hl _ (List.getElem_mem hlt)) (by omega) (by omega) (by omega) (by rw [hes _ (List.getElem_mem hls)]; omega)
    rw [hn0] at cW
    have hpf : wrS k m n file whole sh[i] i ds[i] = putF k m n file whole sh i ds[i] := by rw [putF, hgd]
    rw [hpf] at cW
    obtain ⟨P, hP⟩ : ∃ P, putF k m n file whole sh i ds[i] = P := ⟨_, rfl⟩
    have hPl : P.length ≤ 3 := by rw [← hP]; exact putF_len _ _ _ _ _ _ _ _
    rw [hP] at cW hts
    refine ⟨i, rfl, by omega, ?_⟩; (conv => whnf)
    refine ⟨_, at_map0 hls, ?_⟩; (conv => whnf)
    refine ⟨_, _, cW, (by repeat' (first | exact lends_nil | exact lend_dead | apply lends_cons | apply lend_agg | apply lend_one | exact all2_nil | apply all2_cons | exact la_lit rfl | exact la_int (by first | rfl | omega) | exact la_row rfl rfl | exact la_loc rfl rfl rfl (by first | rfl | simp [mkL_length]) (by first | rfl | simp) | exact la_nil rfl | apply la_fn rfl | exact lend_same rfl rfl | exact lend_bor rfl rfl)), ?_⟩; (conv => whnf)
    refine ⟨true, P.map DStep.enc, ⟨rfl, by simp, rfl, by rw [List.drop_zero]; exact (List.take_of_length_le (by simp)).symm⟩, ?_⟩; (conv => whnf)
    refine ⟨_, laid_map (f := DStep.enc) (fun _ => rfl) P, rfl, by simp, rfl, by simp [maxLen]; omega, by simp; omega, ?_⟩; (conv => whnf)
    (refine ⟨((i + 1 : Nat) : Int), by rw [← wrap64_id] <;> omega, ?_⟩; conv => whnf)
    exact lg_back (i + 1) (by omega) (by (try dsimp only); omega) (weak_of (all_cons rfl (all_cons rfl (all_cons rfl (all_cons rfl (all_cons rfl (all_cons (eq_loc rfl (by rw [hts]; simp)) (all_cons rfl (all_cons rfl (all_cons rfl all_nil))))))))) (all_cons rfl (all_cons rfl (all_cons (eq_row rfl (by rw [hts, List.map_append])) all_nil))) rfl rfl)
  · have hie : i = ds.length := by omega
    subst hie
    rw [List.take_length] at hai
    obtain ⟨A, hAA⟩ : ∃ A, accI (putF k m n file whole sh) 0 ds = A := ⟨_, rfl⟩
    have hAt : accI (putF k m n file whole sh) 0 (ds.take ds.length) = A := by rw [List.take_length, hAA]
    rw [hAA] at hai
    rw [hAA]
    have hrs : ∀ q, (A ++ (List.range (q + 1)).map fun i => rnStep i file name) = (A ++ (List.range q).map fun i => rnStep i file name) ++ [rnStep q file name] := fun q => by rw [range_succ_map, List.append_assoc]
    refine ⟨LG (fun q : Nat => q ≤ ds.length) (fun q => ds.length - q) (fun q => AS.of [(2, .one (.lit (.string name))), (9, .one (.lit (.string file))), (11, .one (.loc 640 0 (A.length + q))), (44, .one (vN ds.length)), (45, .one (vN q))] [(640, .row true 5 ((A ++ (List.range q).map fun i => rnStep i file name).map DStep.enc))]),
      lg_init 0 (by omega) (weak_of (all_cons rfl (all_cons rfl (all_cons (eq_loc rfl (by rw [hAt]; simp)) (all_cons (eq_int rfl (by simp)) (all_cons rfl all_nil))))) (all_cons (eq_row rfl (by rw [hAt]; simp)) all_nil) rfl rfl), ?_⟩
    rintro σ j ⟨q, hq, rfl, rfl⟩
    refine ⟨_, Weak.refl _, ?_⟩
    (conv => whnf)
    (split <;> rename_i h2 <;> (try simp only [decide_eq_true_eq, decide_eq_false_iff_not, Bool.not_eq_true', Bool.not_eq_false', Bool.not_eq_true, Bool.not_eq_false, List.length_map] at h2) <;> conv => whnf)
    · refine ⟨true, [(rnStep q file name).enc], ⟨rfl, by simp [chunk], rfl, rfl⟩, ?_⟩; (conv => whnf)
      refine ⟨_, laid_map (f := DStep.enc) (fun _ => rfl) [rnStep q file name], rfl, by simp, rfl, by simp [maxLen]; omega, by simp; omega, ?_⟩; (conv => whnf)
      (refine ⟨((q + 1 : Nat) : Int), by rw [← wrap64_id] <;> omega, ?_⟩; conv => whnf)
      exact lg_back (q + 1) (by omega) (by (try dsimp only); omega) (weak_of (all_cons rfl (all_cons rfl (all_cons (eq_loc rfl (by simp; omega)) (all_cons rfl (all_cons rfl all_nil))))) (all_cons (eq_row rfl (by rw [hrs, List.map_append (l₂ := [_])])) all_nil) rfl rfl)
    · have hqe : q = ds.length := by omega
      subst hqe
      exact ⟨close_row rfl rfl (by simp) rfl, trivial⟩
theorem putSpec2_c {k m tag : Nat} {ds : List DDrive} {name text : ByteArray} (hk : 1 ≤ k ∧ k ≤ 8) (hm : m ≤ 6) (hdl : ds.length = k + m) (hl : ∀ d ∈ ds, d.files.length ≤ 4294967296) (htag : tag ≤ 9) (hn : name.size ≤ 90000) (ht : text.size ≤ 12000) :
    Fun1 Tryz.prog 17 [.agg (DArray.enc ⟨k, m, ds⟩), .one (vN tag), .one (.lit (.string name)), .one (.lit (.string text))] (.one (.row true 5 ((putL k m ds tag name text).map DStep.enc))) := by
  have cE := encSpec_c hk hm (by omega : text.size ≤ 20000)
  have hel := encN_len k m text
  have hes := @encN_size k m text
  have hA : putL k m ds tag name text = accI (putF k m text.size (tagN tag name) (digF text) (encN k m text)) 0 ds ++ (List.range ds.length).map fun i => rnStep i (tagN tag name) name := rfl
  rw [hA]
  obtain ⟨sh, hsh⟩ : ∃ f, encN k m text = f := ⟨_, rfl⟩
  rw [hsh] at cE hel hes
  rw [hsh]
  have hal : ∀ i, (accI (putF k m text.size (tagN tag name) (digF text) sh) 0 (ds.take i)).length ≤ 42 := fun i => by
    have := accI_len_le (f := putF k m text.size (tagN tag name) (digF text) sh) (g := fun _ => 3) (putF_len k m text.size (tagN tag name) (digF text) sh) ds i
    rw [sum_three] at this; omega
  obtain ⟨f, hf⟩ : ∃ f, putF k m text.size (tagN tag name) (digF text) sh = f := ⟨_, rfl⟩
  have hfl : ∀ i d, (f i d).length ≤ 3 := fun i d => by rw [← hf]; exact putF_len _ _ _ _ _ _ _ _
  rw [hf] at hal ⊢
  refine fun1_of_vc tb_ok mix (fn := Tryz.f17) Tryz.func17 rfl (by kernel_rfl) (by kernel_rfl) (by simp [Tryz.f17]) (by show AV.nb (4 + 1) _ = true; exact nb_map (n := 4) (fun y => DStep.enc_nbn 4 y) _) ?_
  (conv => whnf)
  refine ⟨_, _, cE, (by repeat' (first | exact lends_nil | exact lend_dead | apply lends_cons | apply lend_agg | apply lend_one | exact all2_nil | apply all2_cons | exact la_lit rfl | exact la_int (by first | rfl | omega) | exact la_row rfl rfl | exact la_loc rfl rfl rfl (by first | rfl | simp [mkL_length]) (by first | rfl | simp) | exact la_nil rfl | apply la_fn rfl | exact lend_same rfl rfl | exact lend_bor rfl rfl)), ?_⟩; (conv => whnf)
  refine ⟨LG (fun i : Nat => i ≤ ds.length) (fun i => ds.length - i) (fun i => AS.of [(1, .one (vN tag)), (2, .one (.lit (.string name))), (3, .one (.lit (.string text))), (4, .one (.ptr 64 0)), (9, .one (.loc 288 0 (k + m))), (10, .one (.loc 320 0 (accI f 0 (ds.take i)).length)), (11, .one (vN i))]
    [(64, .var (DArray.enc ⟨k, m, ds⟩)), (288, .row true 1 (sh.map eStr)), (320, .row true 5 ((accI f 0 (ds.take i)).map DStep.enc))]),
    lg_init 0 (by omega) (weak_of (all_cons rfl (all_cons rfl (all_cons rfl (all_cons rfl (all_cons (eq_loc rfl (by rw [List.length_map, hel])) (all_cons rfl (all_cons rfl all_nil))))))) (by repeat (first | refine all_cons (by first | rfl | exact eq_int rfl (by first | rfl | omega | (simp; done) | (simp; omega)) | exact eq_loc rfl (by first | rfl | omega | (simp; done) | (simp; omega)) | exact eq_bool rfl (by simp_all)) ?_ | exact all_nil)) rfl rfl), ?_⟩
  rintro σ j ⟨i, hi, rfl, rfl⟩
  have hai := hal i
  refine ⟨_, Weak.refl _, ?_⟩
  (conv => whnf)
  (split <;> rename_i h <;> (try simp only [decide_eq_true_eq, decide_eq_false_iff_not, Bool.not_eq_true', Bool.not_eq_false', Bool.not_eq_true, Bool.not_eq_false, List.length_map] at h) <;> conv => whnf)
  · have hlt : i < ds.length := by omega
    have hls : i < sh.length := by omega
    have hts := accI_take_succ (f := f) hlt
    have hai1 := hal (i + 1)
    have hgd : sh.getD i .empty = sh[i] := by rw [List.getD_eq_getElem?_getD, List.getElem?_eq_getElem hls]; rfl
    have cW := writeSpec_c (k := k) (m := m) (i := i) (tag := tag) (ds := ds) (name := name) (text := text) (shards := sh) hk hm hlt (by omega) (hl _ (List.getElem_mem hlt)) htag hn ht hls (hes _ (List.getElem_mem hls))
    have hpf : wrS k m text.size (tagN tag name) (digF text) sh[i] i ds[i] = f i ds[i] := by rw [← hf, putF, hgd]
    rw [hpf] at cW
    obtain ⟨P, hP⟩ : ∃ P, f i ds[i] = P := ⟨_, rfl⟩
    have hPl : P.length ≤ 3 := by rw [← hP]; exact hfl _ _
    rw [hP] at cW hts
    refine ⟨_, _, cW, (lends_cons (lend_agg (all2_cons (la_int rfl) (all2_cons (la_int rfl) (all2_cons (la_row rfl rfl) all2_nil)))) (lends_cons (lend_one (la_int rfl)) (lends_cons (lend_one (la_lit rfl)) (lends_cons (lend_one (la_lit rfl)) (lends_cons (lend_one (la_loc rfl rfl rfl (by rw [List.length_map, hel]) rfl)) (lends_cons (lend_one (la_int rfl)) lends_nil)))))), ?_⟩; (conv => whnf)
    refine ⟨true, P.map DStep.enc, ⟨rfl, by simp, rfl, by rw [List.drop_zero]; exact (List.take_of_length_le (by simp)).symm⟩, ?_⟩; (conv => whnf)
    refine ⟨_, laid_map (f := DStep.enc) (fun _ => rfl) P, rfl, by simp, rfl, by simp [maxLen]; omega, by simp; omega, ?_⟩; (conv => whnf)
    (refine ⟨((i + 1 : Nat) : Int), by rw [← wrap64_id] <;> omega, ?_⟩; conv => whnf)
    exact lg_back (i + 1) (by omega) (by (try dsimp only); omega) (weak_of (all_cons rfl (all_cons rfl (all_cons rfl (all_cons rfl (all_cons rfl (all_cons (eq_loc rfl (by rw [hts]; simp)) (all_cons rfl all_nil))))))) (all_cons rfl (all_cons rfl (all_cons (eq_row rfl (by rw [hts, List.map_append])) all_nil))) rfl rfl)
  · have hie : i = ds.length := by omega
    subst hie
    rw [List.take_length] at hai
    obtain ⟨A, hAA⟩ : ∃ A, accI f 0 ds = A := ⟨_, rfl⟩
    have hAt : accI f 0 (ds.take ds.length) = A := by rw [List.take_length, hAA]
    rw [hAA] at hai
    rw [hAA]
    have hrs : ∀ q, (A ++ (List.range (q + 1)).map fun i => rnStep i (tagN tag name) name) = (A ++ (List.range q).map fun i => rnStep i (tagN tag name) name) ++ [rnStep q (tagN tag name) name] := fun q => by rw [range_succ_map, List.append_assoc]
    refine ⟨LG (fun q : Nat => q ≤ ds.length) (fun q => ds.length - q) (fun q => AS.of [(1, .one (vN tag)), (2, .one (.lit (.string name))), (4, .one (.ptr 64 0)), (10, .one (.loc 320 0 (A.length + q))), (12, .one (vN q))] [(64, .var (DArray.enc ⟨k, m, ds⟩)), (320, .row true 5 ((A ++ (List.range q).map fun i => rnStep i (tagN tag name) name).map DStep.enc))]),
      lg_init 0 (by omega) (weak_of (all_cons rfl (all_cons rfl (all_cons rfl (all_cons (eq_loc rfl (by rw [hAt]; simp)) (all_cons rfl all_nil))))) (all_cons rfl (all_cons (eq_row rfl (by rw [hAt]; simp)) all_nil)) rfl rfl), ?_⟩
    rintro σ j ⟨q, hq, rfl, rfl⟩
    refine ⟨_, Weak.refl _, ?_⟩
    (conv => whnf)
    (split <;> rename_i h2 <;> (try simp only [decide_eq_true_eq, decide_eq_false_iff_not, Bool.not_eq_true', Bool.not_eq_false', Bool.not_eq_true, Bool.not_eq_false, List.length_map] at h2) <;> conv => whnf)
    · have hlq : q < ds.length := by omega
      refine ⟨_, _, rename_c (i := q) (name := name) htag hn, (by repeat' (first | exact lends_nil | exact lend_dead | apply lends_cons | apply lend_agg | apply lend_one | exact all2_nil | apply all2_cons | exact la_lit rfl | exact la_int (by first | rfl | omega) | exact la_row rfl rfl | exact la_loc rfl rfl rfl (by first | rfl | simp [mkL_length]) (by first | rfl | simp) | exact la_nil rfl | apply la_fn rfl | exact lend_same rfl rfl | exact lend_bor rfl rfl)), ?_⟩; (conv => whnf)
      refine ⟨true, [(rnStep q (tagN tag name) name).enc], ⟨rfl, by simp [chunk], rfl, rfl⟩, ?_⟩; (conv => whnf)
      refine ⟨_, laid_map (f := DStep.enc) (fun _ => rfl) [rnStep q (tagN tag name) name], rfl, by simp, rfl, by simp [maxLen]; omega, by simp; omega, ?_⟩; (conv => whnf)
      (refine ⟨((q + 1 : Nat) : Int), by rw [← wrap64_id] <;> omega, ?_⟩; conv => whnf)
      exact lg_back (q + 1) (by omega) (by (try dsimp only); omega) (weak_of (all_cons rfl (all_cons rfl (all_cons rfl (all_cons (eq_loc rfl (by simp; omega)) (all_cons rfl all_nil))))) (all_cons rfl (all_cons (eq_row rfl (by rw [hrs, List.map_append (l₂ := [_])])) all_nil)) rfl rfl)
    · have hqe : q = ds.length := by omega
      subst hqe
      exact ⟨close_row rfl rfl (by simp) rfl, trivial⟩
end Go.Proofs.YtdbnppipgblajaaGreatDoor
namespace Go.Proofs.YtdbnppipgblajaaGreatDoor
open Go.RowKit
set_option linter.unusedSimpArgs false
set_option linter.unusedVariables false
set_option maxRecDepth 100000
set_option maxHeartbeats 4000000
theorem used_of_wt2 {x : DArray} (hw : x.wt ≤ 1048576) : ∀ d ∈ x.drives, usedN d.files ≤ 1000000000000 := fun d hd => by
  have h1 : x.wt = wL DDrive.wt x.drives := rfl
  have h2 := wL_mem (f := DDrive.wt) hd
  have h3 : d.wt = wL DStored.wt d.files := rfl
  have h4 := usedN_le d.files
  omega
theorem cnStep2 (l : List DStep) : cnL DStep.cnE l = 5 * l.length := by
  induction l with
  | nil => rfl
  | cons y l ih => simp only [cnL, List.map_cons, List.sum_cons, List.length_cons] at ih ⊢; rw [ih]; have : y.cnE = 5 := rfl; omega
def putR (x : DArray) (tag : Int) (name text : ByteArray) : List DStep :=
  if (name.size : Int) ≤ 20000 ∧ (text.size : Int) ≤ 12000 ∧ arrayOk x = true ∧ tagOk tag = true ∧ objOk name = true then putL x.k.toNat x.m.toNat x.drives tag.toNat name text else []
theorem natArr {x : DArray} (h : arrayOk x = true) : ∃ k m : Nat, x = ⟨k, m, x.drives⟩ ∧ x.k.toNat = k ∧ x.m.toNat = m ∧ 1 ≤ k ∧ k ≤ 8 ∧ m ≤ 6 ∧ x.drives.length = k + m := by
  obtain ⟨_, _, h1, h2, h3, h4, h5⟩ := arrayOk_len h
  refine ⟨x.k.toNat, x.m.toNat, ?_, rfl, rfl, by omega, by omega, by omega, by omega⟩
  obtain ⟨k, m, ds⟩ := x
  simp only at h1 h3 ⊢
  rw [Int.toNat_of_nonneg (by omega), Int.toNat_of_nonneg h3]
theorem putStepsImpl_c (x : DArray) (hx : x.ok) (hu : ∀ d ∈ x.drives, usedN d.files ≤ 1000000000000) (tag : Int) (name text : ByteArray) (hn : name.size ≤ 4294967296) (ht : text.size ≤ 4294967296) :
    Fun1 Tryz.prog 7 [.agg x.enc, .one (.lit (.int .i64 tag)), .one (.lit (.string name)), .one (.lit (.string text))] (.one (.row true 5 ((putR x tag name text).map DStep.enc))) := by
  obtain ⟨r, hr⟩ : ∃ r, putR x tag name text = r := ⟨_, rfl⟩
  rw [hr]
  unfold putR at hr
  by_cases hc : (name.size : Int) ≤ 20000 ∧ (text.size : Int) ≤ 12000 ∧ arrayOk x = true ∧ tagOk tag = true ∧ objOk name = true
  · rw [if_pos hc] at hr
    obtain ⟨h1, h2, h3, h4, h5⟩ := hc
    obtain ⟨k, m, hxe, hk, hm, k1, k8, m6, hdl⟩ := natArr h3
    rw [hk, hm] at hr
    have hcx := putImpl2_c (k := k) (m := m) (tag := tag.toNat) (ds := x.drives) (name := name) (text := text) ⟨k1, k8⟩ m6 hdl (arrayOk_len h3).2.1 (fun d hd => (hx.2.2.2 d hd).1.1) (by simp only [tagOk, Bool.and_eq_true, decide_eq_true_eq] at h4; omega) (by omega) (by omega)
    rw [← hxe, hr, show vN tag.toNat = .lit (.int .i64 tag) by
      simp only [tagOk, Bool.and_eq_true, decide_eq_true_eq] at h4
      show AV.lit (.int .i64 ((tag.toNat : Nat) : Int)) = _
      rw [Int.toNat_of_nonneg h4.1]] at hcx
    refine fun1_of_vc tb_ok mix (fn := Tryz.f7) Tryz.func7 rfl (by kernel_rfl) (by kernel_rfl) (by simp [Tryz.f7]) (by show AV.nb (4 + 1) _ = true; exact nb_map (n := 4) (fun y => DStep.enc_nbn 4 y) _) ?_
    (conv => whnf)
    refine ⟨_, _, isLong_c name, (by repeat' (first | exact lends_nil | exact lend_dead | apply lends_cons | apply lend_agg | apply lend_one | exact all2_nil | apply all2_cons | exact la_lit rfl | exact la_int (by first | rfl | omega) | exact la_row rfl rfl | exact la_loc rfl rfl rfl (by first | rfl | simp [mkL_length]) (by first | rfl | simp) | exact la_nil rfl | apply la_fn rfl | exact lend_same rfl rfl | exact lend_bor rfl rfl)), ?_⟩; (conv => whnf)
    (split <;> rename_i g1 <;> (try simp only [decide_eq_true_eq, decide_eq_false_iff_not, Bool.not_eq_true', Bool.not_eq_false', Bool.not_eq_true, Bool.not_eq_false, List.length_map] at g1) <;> conv => whnf)
    · exfalso; omega
    refine ⟨_, _, arrayImpl_c x hx hu, (by repeat' (first | exact lends_nil | exact lend_dead | apply lends_cons | apply lend_agg | apply lend_one | exact all2_nil | apply all2_cons | exact la_lit rfl | exact la_int (by first | rfl | omega) | exact la_row rfl rfl | exact la_loc rfl rfl rfl (by first | rfl | simp [mkL_length]) (by first | rfl | simp) | exact la_nil rfl | apply la_fn rfl | exact lend_same rfl rfl | exact lend_bor rfl rfl)), ?_⟩
    rw [h3]
    (conv => whnf)
    refine ⟨_, _, isTag_c tag, (by repeat' (first | exact lends_nil | exact lend_dead | apply lends_cons | apply lend_agg | apply lend_one | exact all2_nil | apply all2_cons | exact la_lit rfl | exact la_int (by first | rfl | omega) | exact la_row rfl rfl | exact la_loc rfl rfl rfl (by first | rfl | simp [mkL_length]) (by first | rfl | simp) | exact la_nil rfl | apply la_fn rfl | exact lend_same rfl rfl | exact lend_bor rfl rfl)), ?_⟩
    rw [h4]
    (conv => whnf)
    refine ⟨_, _, objectImpl_c name hn, (by repeat' (first | exact lends_nil | exact lend_dead | apply lends_cons | apply lend_agg | apply lend_one | exact all2_nil | apply all2_cons | exact la_lit rfl | exact la_int (by first | rfl | omega) | exact la_row rfl rfl | exact la_loc rfl rfl rfl (by first | rfl | simp [mkL_length]) (by first | rfl | simp) | exact la_nil rfl | apply la_fn rfl | exact lend_same rfl rfl | exact lend_bor rfl rfl)), ?_⟩
    rw [h5]
    (conv => whnf)
    (split <;> rename_i g2 <;> (try simp only [decide_eq_true_eq, decide_eq_false_iff_not, Bool.not_eq_true', Bool.not_eq_false', Bool.not_eq_true, Bool.not_eq_false, List.length_map] at g2) <;> conv => whnf)
    · exfalso; omega
    refine ⟨_, _, hcx, (by repeat' (first | exact lends_nil | exact lend_dead | apply lends_cons | apply lend_agg | apply lend_one | exact all2_nil | apply all2_cons | exact la_lit rfl | exact la_int (by first | rfl | omega) | exact la_row rfl rfl | exact la_loc rfl rfl rfl (by first | rfl | simp [mkL_length]) (by first | rfl | simp) | exact la_nil rfl | apply la_fn rfl | exact lend_same rfl rfl | exact lend_bor rfl rfl)), ?_⟩; (conv => whnf)
    exact ⟨close_row rfl rfl rfl rfl, trivial⟩
  · rw [if_neg hc] at hr
    subst hr
    refine fun1_of_vc tb_ok mix (fn := Tryz.f7) Tryz.func7 rfl (by kernel_rfl) (by kernel_rfl) (by simp [Tryz.f7]) (by rfl) ?_
    (conv => whnf)
    refine ⟨_, _, isLong_c name, (by repeat' (first | exact lends_nil | exact lend_dead | apply lends_cons | apply lend_agg | apply lend_one | exact all2_nil | apply all2_cons | exact la_lit rfl | exact la_int (by first | rfl | omega) | exact la_row rfl rfl | exact la_loc rfl rfl rfl (by first | rfl | simp [mkL_length]) (by first | rfl | simp) | exact la_nil rfl | apply la_fn rfl | exact lend_same rfl rfl | exact lend_bor rfl rfl)), ?_⟩; (conv => whnf)
    (split <;> rename_i g1 <;> (try simp only [decide_eq_true_eq, decide_eq_false_iff_not, Bool.not_eq_true', Bool.not_eq_false', Bool.not_eq_true, Bool.not_eq_false, List.length_map] at g1) <;> conv => whnf)
    · exact (by repeat' (first | exact trivial | exact close_int rfl | exact close_str rfl | exact close_bool rfl | exact close_int (by omega) | exact close_row rfl rfl (by first | rfl | simp) (by first | rfl | simp) | exact close_nil (by first | rfl | simp) | exact rfl | apply And.intro | apply closeTs_cons rfl))
    refine ⟨_, _, arrayImpl_c x hx hu, (by repeat' (first | exact lends_nil | exact lend_dead | apply lends_cons | apply lend_agg | apply lend_one | exact all2_nil | apply all2_cons | exact la_lit rfl | exact la_int (by first | rfl | omega) | exact la_row rfl rfl | exact la_loc rfl rfl rfl (by first | rfl | simp [mkL_length]) (by first | rfl | simp) | exact la_nil rfl | apply la_fn rfl | exact lend_same rfl rfl | exact lend_bor rfl rfl)), ?_⟩; (conv => whnf)
    (split <;> rename_i g2 <;> (try simp only [decide_eq_true_eq, decide_eq_false_iff_not, Bool.not_eq_true', Bool.not_eq_false', Bool.not_eq_true, Bool.not_eq_false, List.length_map] at g2) <;> conv => whnf)
    · exact (by repeat' (first | exact trivial | exact close_int rfl | exact close_str rfl | exact close_bool rfl | exact close_int (by omega) | exact close_row rfl rfl (by first | rfl | simp) (by first | rfl | simp) | exact close_nil (by first | rfl | simp) | exact rfl | apply And.intro | apply closeTs_cons rfl))
    refine ⟨_, _, isTag_c tag, (by repeat' (first | exact lends_nil | exact lend_dead | apply lends_cons | apply lend_agg | apply lend_one | exact all2_nil | apply all2_cons | exact la_lit rfl | exact la_int (by first | rfl | omega) | exact la_row rfl rfl | exact la_loc rfl rfl rfl (by first | rfl | simp [mkL_length]) (by first | rfl | simp) | exact la_nil rfl | apply la_fn rfl | exact lend_same rfl rfl | exact lend_bor rfl rfl)), ?_⟩; (conv => whnf)
    (split <;> rename_i g3 <;> (try simp only [decide_eq_true_eq, decide_eq_false_iff_not, Bool.not_eq_true', Bool.not_eq_false', Bool.not_eq_true, Bool.not_eq_false, List.length_map] at g3) <;> conv => whnf)
    · exact (by repeat' (first | exact trivial | exact close_int rfl | exact close_str rfl | exact close_bool rfl | exact close_int (by omega) | exact close_row rfl rfl (by first | rfl | simp) (by first | rfl | simp) | exact close_nil (by first | rfl | simp) | exact rfl | apply And.intro | apply closeTs_cons rfl))
    refine ⟨_, _, objectImpl_c name hn, (by repeat' (first | exact lends_nil | exact lend_dead | apply lends_cons | apply lend_agg | apply lend_one | exact all2_nil | apply all2_cons | exact la_lit rfl | exact la_int (by first | rfl | omega) | exact la_row rfl rfl | exact la_loc rfl rfl rfl (by first | rfl | simp [mkL_length]) (by first | rfl | simp) | exact la_nil rfl | apply la_fn rfl | exact lend_same rfl rfl | exact lend_bor rfl rfl)), ?_⟩; (conv => whnf)
    (split <;> rename_i g4 <;> (try simp only [decide_eq_true_eq, decide_eq_false_iff_not, Bool.not_eq_true', Bool.not_eq_false', Bool.not_eq_true, Bool.not_eq_false, List.length_map] at g4) <;> conv => whnf)
    · exact (by repeat' (first | exact trivial | exact close_int rfl | exact close_str rfl | exact close_bool rfl | exact close_int (by omega) | exact close_row rfl rfl (by first | rfl | simp) (by first | rfl | simp) | exact close_nil (by first | rfl | simp) | exact rfl | apply And.intro | apply closeTs_cons rfl))
    (split <;> rename_i g5 <;> (try simp only [decide_eq_true_eq, decide_eq_false_iff_not, Bool.not_eq_true', Bool.not_eq_false', Bool.not_eq_true, Bool.not_eq_false, List.length_map] at g5) <;> conv => whnf)
    · exact (by repeat' (first | exact trivial | exact close_int rfl | exact close_str rfl | exact close_bool rfl | exact close_int (by omega) | exact close_row rfl rfl (by first | rfl | simp) (by first | rfl | simp) | exact close_nil (by first | rfl | simp) | exact rfl | apply And.intro | apply closeTs_cons rfl))
    · exact absurd ⟨by omega, by omega, g2, g3, g4⟩ hc
theorem putStepsSpec_c (x : DArray) (hx : x.ok) (hu : ∀ d ∈ x.drives, usedN d.files ≤ 1000000000000) (tag : Int) (name text : ByteArray) (hn : name.size ≤ 4294967296) (ht : text.size ≤ 4294967296) :
    Fun1 Tryz.prog 5 [.agg x.enc, .one (.lit (.int .i64 tag)), .one (.lit (.string name)), .one (.lit (.string text))] (.one (.row true 5 ((putR x tag name text).map DStep.enc))) := by
  obtain ⟨r, hr⟩ : ∃ r, putR x tag name text = r := ⟨_, rfl⟩
  rw [hr]
  unfold putR at hr
  by_cases hc : (name.size : Int) ≤ 20000 ∧ (text.size : Int) ≤ 12000 ∧ arrayOk x = true ∧ tagOk tag = true ∧ objOk name = true
  · rw [if_pos hc] at hr
    obtain ⟨h1, h2, h3, h4, h5⟩ := hc
    obtain ⟨k, m, hxe, hk, hm, k1, k8, m6, hdl⟩ := natArr h3
    rw [hk, hm] at hr
    have hcx := putSpec2_c (k := k) (m := m) (tag := tag.toNat) (ds := x.drives) (name := name) (text := text) ⟨k1, k8⟩ m6 hdl (fun d hd => (hx.2.2.2 d hd).1.1) (by simp only [tagOk, Bool.and_eq_true, decide_eq_true_eq] at h4; omega) (by omega) (by omega)
    rw [← hxe, hr, show vN tag.toNat = .lit (.int .i64 tag) by
      simp only [tagOk, Bool.and_eq_true, decide_eq_true_eq] at h4
      show AV.lit (.int .i64 ((tag.toNat : Nat) : Int)) = _
      rw [Int.toNat_of_nonneg h4.1]] at hcx
    refine fun1_of_vc tb_ok mix (fn := Tryz.f5) Tryz.func5 rfl (by kernel_rfl) (by kernel_rfl) (by simp [Tryz.f5]) (by show AV.nb (4 + 1) _ = true; exact nb_map (n := 4) (fun y => DStep.enc_nbn 4 y) _) ?_
    (conv => whnf)
    (split <;> rename_i g1 <;> (try simp only [decide_eq_true_eq, decide_eq_false_iff_not, Bool.not_eq_true', Bool.not_eq_false', Bool.not_eq_true, Bool.not_eq_false, List.length_map] at g1) <;> conv => whnf)
    · exfalso; omega
    (split <;> rename_i g2 <;> (try simp only [decide_eq_true_eq, decide_eq_false_iff_not, Bool.not_eq_true', Bool.not_eq_false', Bool.not_eq_true, Bool.not_eq_false, List.length_map] at g2) <;> conv => whnf)
    · exfalso; omega
    refine ⟨_, _, arraySpec_c x hx hu, (by repeat' (first | exact lends_nil | exact lend_dead | apply lends_cons | apply lend_agg | apply lend_one | exact all2_nil | apply all2_cons | exact la_lit rfl | exact la_int (by first | rfl | omega) | exact la_row rfl rfl | exact la_loc rfl rfl rfl (by first | rfl | simp [mkL_length]) (by first | rfl | simp) | exact la_nil rfl | apply la_fn rfl | exact lend_same rfl rfl | exact lend_bor rfl rfl)), ?_⟩
    rw [h3]
    (conv => whnf)
    refine ⟨_, _, l09Tag_c tag, (by repeat' (first | exact lends_nil | exact lend_dead | apply lends_cons | apply lend_agg | apply lend_one | exact all2_nil | apply all2_cons | exact la_lit rfl | exact la_int (by first | rfl | omega) | exact la_row rfl rfl | exact la_loc rfl rfl rfl (by first | rfl | simp [mkL_length]) (by first | rfl | simp) | exact la_nil rfl | apply la_fn rfl | exact lend_same rfl rfl | exact lend_bor rfl rfl)), ?_⟩
    rw [h4]
    (conv => whnf)
    refine ⟨_, _, objectSpec_c name hn, (by repeat' (first | exact lends_nil | exact lend_dead | apply lends_cons | apply lend_agg | apply lend_one | exact all2_nil | apply all2_cons | exact la_lit rfl | exact la_int (by first | rfl | omega) | exact la_row rfl rfl | exact la_loc rfl rfl rfl (by first | rfl | simp [mkL_length]) (by first | rfl | simp) | exact la_nil rfl | apply la_fn rfl | exact lend_same rfl rfl | exact lend_bor rfl rfl)), ?_⟩
    rw [h5]
    (conv => whnf)
    refine ⟨_, _, hcx, (by repeat' (first | exact lends_nil | exact lend_dead | apply lends_cons | apply lend_agg | apply lend_one | exact all2_nil | apply all2_cons | exact la_lit rfl | exact la_int (by first | rfl | omega) | exact la_row rfl rfl | exact la_loc rfl rfl rfl (by first | rfl | simp [mkL_length]) (by first | rfl | simp) | exact la_nil rfl | apply la_fn rfl | exact lend_same rfl rfl | exact lend_bor rfl rfl)), ?_⟩; (conv => whnf)
    exact ⟨close_row rfl rfl rfl rfl, trivial⟩
  · rw [if_neg hc] at hr
    subst hr
    refine fun1_of_vc tb_ok mix (fn := Tryz.f5) Tryz.func5 rfl (by kernel_rfl) (by kernel_rfl) (by simp [Tryz.f5]) (by rfl) ?_
    (conv => whnf)
    (split <;> rename_i g1 <;> (try simp only [decide_eq_true_eq, decide_eq_false_iff_not, Bool.not_eq_true', Bool.not_eq_false', Bool.not_eq_true, Bool.not_eq_false, List.length_map] at g1) <;> conv => whnf)
    · exact ⟨close_row rfl rfl rfl rfl, trivial⟩
    (split <;> rename_i g2 <;> (try simp only [decide_eq_true_eq, decide_eq_false_iff_not, Bool.not_eq_true', Bool.not_eq_false', Bool.not_eq_true, Bool.not_eq_false, List.length_map] at g2) <;> conv => whnf)
    · exact ⟨close_row rfl rfl rfl rfl, trivial⟩
    refine ⟨_, _, arraySpec_c x hx hu, (by repeat' (first | exact lends_nil | exact lend_dead | apply lends_cons | apply lend_agg | apply lend_one | exact all2_nil | apply all2_cons | exact la_lit rfl | exact la_int (by first | rfl | omega) | exact la_row rfl rfl | exact la_loc rfl rfl rfl (by first | rfl | simp [mkL_length]) (by first | rfl | simp) | exact la_nil rfl | apply la_fn rfl | exact lend_same rfl rfl | exact lend_bor rfl rfl)), ?_⟩; (conv => whnf)
    (split <;> rename_i g3 <;> (try simp only [decide_eq_true_eq, decide_eq_false_iff_not, Bool.not_eq_true', Bool.not_eq_false', Bool.not_eq_true, Bool.not_eq_false, List.length_map] at g3) <;> conv => whnf)
    · exact ⟨close_row rfl rfl rfl rfl, trivial⟩
    refine ⟨_, _, l09Tag_c tag, (by repeat' (first | exact lends_nil | exact lend_dead | apply lends_cons | apply lend_agg | apply lend_one | exact all2_nil | apply all2_cons | exact la_lit rfl | exact la_int (by first | rfl | omega) | exact la_row rfl rfl | exact la_loc rfl rfl rfl (by first | rfl | simp [mkL_length]) (by first | rfl | simp) | exact la_nil rfl | apply la_fn rfl | exact lend_same rfl rfl | exact lend_bor rfl rfl)), ?_⟩; (conv => whnf)
    (split <;> rename_i g4 <;> (try simp only [decide_eq_true_eq, decide_eq_false_iff_not, Bool.not_eq_true', Bool.not_eq_false', Bool.not_eq_true, Bool.not_eq_false, List.length_map] at g4) <;> conv => whnf)
    · exact ⟨close_row rfl rfl rfl rfl, trivial⟩
    refine ⟨_, _, objectSpec_c name hn, (by repeat' (first | exact lends_nil | exact lend_dead | apply lends_cons | apply lend_agg | apply lend_one | exact all2_nil | apply all2_cons | exact la_lit rfl | exact la_int (by first | rfl | omega) | exact la_row rfl rfl | exact la_loc rfl rfl rfl (by first | rfl | simp [mkL_length]) (by first | rfl | simp) | exact la_nil rfl | apply la_fn rfl | exact lend_same rfl rfl | exact lend_bor rfl rfl)), ?_⟩; (conv => whnf)
    (split <;> rename_i g5 <;> (try simp only [decide_eq_true_eq, decide_eq_false_iff_not, Bool.not_eq_true', Bool.not_eq_false', Bool.not_eq_true, Bool.not_eq_false, List.length_map] at g5) <;> conv => whnf)
    · exact ⟨close_row rfl rfl rfl rfl, trivial⟩
    · exact absurd ⟨by omega, by omega, g3, g4, g5⟩ hc
theorem wrS_ok {k m n i : Nat} {file whole shard : ByteArray} {d : DDrive} (hi : i ≤ 1000000) (hf : file.size ≤ 100000) (hw : whole.size ≤ 100000) (hs : shard.size ≤ 100000) : ∀ y ∈ wrS k m n file whole shard i d, y.ok := by
  have hi' : inI (i : Int) := by unfold inI; omega
  have he : ByteArray.empty.size ≤ 4294967296 := by decide
  have hfr := frameN_size k m i n whole shard
  intro y hy
  unfold wrS at hy
  rcases List.mem_append.1 hy with hy | hy
  · split at hy
    · simp at hy; subst hy
      exact ⟨hi', by show inI 4; unfold inI; omega, by show file.size ≤ _; omega, he, he⟩
    · cases hy
  · simp at hy
    rcases hy with rfl | rfl
    · exact ⟨hi', by show inI 1; unfold inI; omega, by show file.size ≤ _; omega, he, by show (frameN k m i n whole shard).size ≤ _; omega⟩
    · exact ⟨hi', by show inI 2; unfold inI; omega, by show file.size ≤ _; omega, he, he⟩
theorem putR_ok (x : DArray) (tag : Int) (name text : ByteArray) : (putR x tag name text).length ≤ 4294967296 ∧ ∀ y ∈ putR x tag name text, y.ok := by
  unfold putR
  split
  · rename_i hc
    obtain ⟨h1, h2, h3, h4, h5⟩ := hc
    obtain ⟨k, m, hxe, hk, hm, k1, k8, m6, hdl⟩ := natArr h3
    rw [hk, hm]
    have he : ByteArray.empty.size ≤ 4294967296 := by decide
    have hts := tagN_size tag.toNat name
    have hal := accI_len (f := putF k m text.size (tagN tag.toNat name) (digF text) (encN k m text)) (g := fun _ => 3) (putF_len k m text.size (tagN tag.toNat name) (digF text) (encN k m text)) x.drives 0
    rw [sum_three] at hal
    refine ⟨by unfold putL putA; rw [List.length_append, List.length_map, List.length_range]; omega, fun y hy => ?_⟩
    unfold putL putA at hy
    rcases List.mem_append.1 hy with hy | hy
    · obtain ⟨j, d, hd, _, hj, hy⟩ := accI_mem hy
      have hjl : j < (encN k m text).length := by rw [encN_len]; omega
      unfold putF at hy
      rw [List.getD_eq_getElem?_getD, List.getElem?_eq_getElem hjl] at hy
      have hsz := encN_size _ (List.getElem_mem hjl)
      have hb := (shN_bounds (size := text.size) k1).2.2
      exact wrS_ok (by omega) (by omega) (by rw [digF_size]; omega) (by show (encN k m text)[j].size ≤ _; omega) y hy
    · obtain ⟨j, hj, rfl⟩ := List.mem_map.1 hy
      have hj := List.mem_range.1 hj
      exact ⟨by show inI (j : Int); unfold inI; omega, by show inI 3; unfold inI; omega, by show (tagN tag.toNat name).size ≤ _; omega, by show name.size ≤ _; omega, he⟩
  · exact ⟨by simp, fun y hy => by cases hy⟩
theorem fnExactPutSteps_c (x0 : DArray) (h0 : x0.it) (x1 : Int) (h1 : inI x1) (x2 : ByteArray) (h2 : x2.size ≤ 9223372036854775807) (x3 : ByteArray) (h3 : x3.size ≤ 9223372036854775807) :
    Fun1 Tryz.prog 3 [.agg x0.enc, .one (.lit (.int .i64 x1)), .one (.lit (.string x2)), .one (.lit (.string x3))] (.one (.lit (.bool true))) := by
  refine lawPutSteps_c x0 h0 x1 h1 x2 h2 x3 h3 fun hw hw2 hw3 => ?_
  have hok := DArray.ok_of x0 h0 (by omega)
  have hr := putR_ok x0 x1 x2 x3
  refine ⟨putR x0 x1 x2 x3, hr, ?_, putStepsSpec_c x0 hok (used_of_wt2 hw) x1 x2 x3 (by omega) (by omega), putStepsImpl_c x0 hok (used_of_wt2 hw) x1 x2 x3 (by omega) (by omega)⟩
  have := cnStep2 (putR x0 x1 x2 x3)
  omega
end Go.Proofs.YtdbnppipgblajaaGreatDoor
namespace Go.Proofs.YtdbnppipgblajaaGreatDoor.fnExactPutSteps
open Go.ChangeShapes Go.WideShapes Go.ChangeAt Go.RowKit
theorem closed : joinedFacts Tryz.prog 3 Tryz.f3 Rows.fnExactPutStepsSpec Rows.fnExactPutStepsRow = true := by kernel_rfl
end Go.Proofs.YtdbnppipgblajaaGreatDoor.fnExactPutSteps
namespace Go.Proofs.YtdbnppipgblajaaGreatDoor
open Go.RowKit
set_option linter.unusedSimpArgs false
set_option linter.unusedVariables false
/-- All memory that is there. -/
def cAll (w : World) : Ctx := c0 fun k => k < w.heap.size
/-- A reading of this type is a datum, laid in cells so. -/
def OpensA {α : Type} (P : Program) (t : TypeId) (f : α → List AV) (ok : α → Prop) : Prop :=
  ∀ (H : Type) (enc : TypeId × Value → H) (w : World) (spare : Nat → Bool) (held : Bool) (fuel : Nat) (cs : List Value) (x : DataW H × List MemPlace), DataW.trod enc P w 0 spare held fuel t cs = some x → ∃ y, RL (cAll w) w (f y) cs ∧ ok y
section
variable {P : Program} {t e : TypeId} {α : Type} {f : α → List AV} {ok : α → Prop}
theorem opensA_int (ht : P.underlying t = some (.int .i64)) : OpensA P t (fun n : Int => [.lit (.int .i64 n)]) (fun n => -9223372036854775808 ≤ n ∧ n ≤ 9223372036854775807) := fun H enc w spare held fuel cs x h => by
  obtain ⟨n, rfl, _, hw⟩ := DataW.trod_int ht h
  simp only [Lit.wf, Bool.and_eq_true, decide_eq_true_eq] at hw
  have e1 : IntKind.i64.min = -9223372036854775808 := by rfl
  have e2 : IntKind.i64.max = 9223372036854775807 := by rfl
  exact ⟨n, ⟨⟨.lit _, rfl⟩, trivial⟩, by omega⟩
theorem opensA_str (ht : P.underlying t = some .string) : OpensA P t (fun s : ByteArray => [.lit (.string s)]) (fun s => s.size ≤ 9223372036854775807) := fun H enc w spare held fuel cs x h => by
  obtain ⟨s, rfl, _, hw⟩ := DataW.trod_string ht h
  exact ⟨s, ⟨⟨.lit _, rfl⟩, trivial⟩, hw⟩
theorem opensA_slice {k : Nat} (ht : P.underlying t = some (.slice e)) (hc : P.cellsOf e = k) (hk : 0 < k) (hf : ∀ x, (f x).all AV.isCell = true) (hl : ∀ x, (f x).length = k) (h : OpensA P e f ok) :
    OpensA P t (fun xs : List α => [.row true k (xs.map f)]) (fun xs => xs.length ≤ 9223372036854775807 ∧ ∀ x ∈ xs, ok x) := fun H enc w spare held fuel cs x hx => by
  rcases Go.Deep.open_slice ht hx with ⟨rfl, _⟩ | ⟨a, len, cap, m, n, D, Pl, rfl, _, hlc, hm, hmm, _, hel⟩
  · exact ⟨[], ⟨⟨.row 0 0 (fun _ _ => default) (Nat.le_refl _) (by simp) (by simp) (by simp) (by simp [elt]) (by simp [elt]) (by simp [elt]) (by simp [elt]), rfl⟩, trivial⟩, by simp, fun x hx => by cases hx⟩
  · have hlm : len ≤ m := by rw [hmm]; split <;> omega
    have hspot : 0 < len → a.spot = none ∧ a.block < w.heap.size := fun hp => by
      obtain ⟨cs', h1, _⟩ := hel 0 (by omega)
      obtain ⟨_, h3, h4⟩ := World.cells?_some h1
      rw [hc] at h3 h4
      have h5 := h4 0 hk
      have e0 : (a.add (0 * k)).add 0 = a := by simp [Addr.add]
      rw [e0, show cs'[0]? = some (cs'[0]'(by omega)) by simp] at h5
      unfold World.cell? at h5
      split at h5
      · rename_i hq
        split at h5
        · cases h5
        · rename_i hs
          exact ⟨by simpa using hs, (Array.getElem?_eq_some_iff.1 hq).1⟩
      · cases h5
    have key : ∀ i : Fin len, ∃ y : α, (∃ cs, RL (cAll w) w (f y) cs ∧ cs.length = k ∧ ∀ j v, cs[j]? = some v → w.cell? ⟨a.block, a.off + i.1 * k + j, none⟩ = some v) ∧ ok y := fun i => by
      obtain ⟨cs', h1, h2⟩ := hel i.1 (by have := i.2; omega)
      obtain ⟨y, hy, ho⟩ := h H enc w spare held n cs' _ h2
      obtain ⟨_, h3, h4⟩ := World.cells?_some h1
      rw [hc] at h3 h4
      refine ⟨y, ⟨cs', hy, h3, fun j v hv => ?_⟩, ho⟩
      have hj : j < k := by have := (List.getElem?_eq_some_iff.1 hv).1; omega
      have h5 := h4 j hj
      rw [hv] at h5
      have hsp := (hspot (by have := i.2; omega)).1
      have e1 : (a.add (i.1 * k)).add j = ⟨a.block, a.off + i.1 * k + j, none⟩ := by
        obtain ⟨b, o, sp⟩ := a
        simp only at hsp
        subst hsp
        simp only [Addr.add]
        split <;> split <;> simp_all
      rw [← e1]; exact h5
    let ys : List α := List.ofFn fun i => (key i).choose
    have hys : ys.length = len := by simp [ys]
    have hget : ∀ i (hi : i < len), ys[i]? = some (key ⟨i, hi⟩).choose := fun i hi => by simp [ys, hi]
    have helt : ∀ i j x, elt (ys.map f) i j = some x → ∃ hi : i < len, (f (key ⟨i, hi⟩).choose)[j]? = some x := fun i j x hx => by
      unfold elt at hx
      have hi : i < len := by
        rcases Nat.lt_or_ge i len with h1 | h1
        · exact h1
        · rw [List.getElem?_eq_none (by simp [hys]; exact h1)] at hx; cases hx
      rw [List.getElem?_map, hget i hi] at hx
      exact ⟨hi, hx⟩
    let vals : Nat → Nat → Value := fun i j => if hi : i < len then ((key ⟨i, hi⟩).choose_spec.1.choose[j]?).getD default else default
    have hval : ∀ i j x, elt (ys.map f) i j = some x → ∃ v, vals i j = v ∧ w.cell? ⟨a.block, a.off + i * k + j, none⟩ = some v ∧ (R (cAll w) w x v ∧ v.oneCell' = true) := fun i j x hx => by
      obtain ⟨hi, hx⟩ := helt i j x hx
      obtain ⟨h1, h2, h3⟩ := (key ⟨i, hi⟩).choose_spec.1.choose_spec
      have hj : j < k := by have := (List.getElem?_eq_some_iff.1 hx).1; rw [hl] at this; exact this
      have hv : (key ⟨i, hi⟩).choose_spec.1.choose[j]? = some ((key ⟨i, hi⟩).choose_spec.1.choose[j]'(by omega)) := by simp
      generalize (key ⟨i, hi⟩).choose_spec.1.choose[j]'(by omega) = v at hv
      refine ⟨v, by simp only [vals, dif_pos hi, hv, Option.getD_some], h3 j v hv, h1.at hx hv⟩
    refine ⟨ys, ⟨⟨?_, rfl⟩, trivial⟩, ?_, fun x hx => ?_⟩
    · have hlen : (ys.map f).length = len := by simp [hys]
      have := R.row (c := cAll w) (w := w) (own := true) (sz := k) (es := ys.map f) (A := some a) (cap := cap) a.block a.off vals (by rw [hlen]; exact hlc) hm (fun hp => by
          rw [hlen] at hp
          obtain ⟨h1, h2⟩ := hspot hp
          refine ⟨?_, h2⟩
          cases a; simp only at h1; subst h1; rfl)
        (fun e he => by obtain ⟨y, _, rfl⟩ := List.mem_map.1 he; exact hl y)
        (fun i j x hx => by
          obtain ⟨hi, hx⟩ := helt i j x hx
          exact List.all_eq_true.1 (hf _) x (List.mem_of_getElem? hx))
        (fun i j x hx => by obtain ⟨v, h1, h2, _⟩ := hval i j x hx; rw [h1]; exact h2)
        (fun i j x hx => by obtain ⟨v, h1, _, h2⟩ := hval i j x hx; rw [h1]; exact h2.2)
        (fun i j x hx => by obtain ⟨v, h1, _, h2⟩ := hval i j x hx; rw [h1]; exact h2.1)
      rw [hlen] at this
      exact this
    · rw [hys]; simp only [maxLen] at hm; omega
    · obtain ⟨i, rfl⟩ := List.mem_ofFn.1 hx
      exact (key i).choose_spec.2
theorem OpensA.mono {ok' : α → Prop} (h : OpensA P t f ok) (hk : ∀ x, ok x → ok' x) : OpensA P t f ok' := fun H enc w spare held fuel cs x hx => let ⟨y, hy, ho⟩ := h H enc w spare held fuel cs x hx; ⟨y, hy, hk y ho⟩
/-- A struct's fields, each read. -/
theorem opensA_fields {fs : Array Field} {H : Type} {enc : TypeId × Value → H} {w : World} {spare : Nat → Bool} {held : Bool} {fuel : Nat} {cs : List Value} {x : DataW H × List MemPlace} (ht : P.underlying t = some (.struct fs)) {k : Nat} (hk : P.cellsOf t = k) (h : DataW.trod enc P w 0 spare held fuel t cs = some x) :
    cs.length = k ∧ ∀ (i t' o m : Nat), (fs[i]?).map (fun f => (f.type, f.offset)) = some (t', o) → P.cellsOf t' = m → ∃ n y, DataW.trod enc P w 0 spare held n t' ((cs.drop o).take m) = some y := by
  obtain ⟨xs, n, _, _, hl, hlen, hf⟩ := DataW.trod_struct ht h
  refine ⟨hl.trans hk, fun i t' o m hi hm => ?_⟩
  obtain ⟨f, hi2, e⟩ := Option.map_eq_some_iff.1 hi
  cases e
  subst hm
  have h1 := hf i f hi2
  have : i < xs.length := by have := (Array.getElem?_eq_some_iff.1 hi2).1; omega
  exact ⟨n, xs[i], by rw [h1]; simp [this]⟩
theorem RL.app {c : Ctx} {w : World} : ∀ {xs ys : List AV} {vs us : List Value}, RL c w xs vs → RL c w ys us → RL c w (xs ++ ys) (vs ++ us)
  | [], ys, [], us, _, h => h
  | x :: xs, ys, v :: vs, us, h, h' => ⟨h.1, RL.app h.2 h'⟩
end
end Go.Proofs.YtdbnppipgblajaaGreatDoor
namespace Go.Proofs.YtdbnppipgblajaaGreatDoor
open Go.RowKit
set_option linter.unusedSimpArgs false
set_option linter.unusedVariables false
theorem cellsInt64 : Tryz.prog.cellsOf 2 = 1 := by kernel_rfl
theorem opInt64 : OpensA Tryz.prog 2 (fun n : Int => [.lit (.int .i64 n)]) (fun x : Int => inI x) := opensA_int Tryz.underlying2
theorem cellsString : Tryz.prog.cellsOf 9 = 1 := by kernel_rfl
theorem opString : OpensA Tryz.prog 9 (fun s : ByteArray => [.lit (.string s)]) (fun x : ByteArray => x.size ≤ 9223372036854775807) := opensA_str Tryz.underlying9
theorem cellsStored : Tryz.prog.cellsOf 109 = 3 := by kernel_rfl
theorem opStored : OpensA Tryz.prog 109 DStored.enc (fun x : DStored => x.it) := fun H enc w spare held fuel cs x h => by
  obtain ⟨hl, hf⟩ := opensA_fields Tryz.underlying109 cellsStored h
  obtain ⟨n0, y0, h0⟩ := hf 0 _ _ _ rfl cellsString
  obtain ⟨n1, y1, h1⟩ := hf 1 _ _ _ rfl cellsString
  obtain ⟨n2, y2, h2⟩ := hf 2 _ _ _ rfl cellsInt64
  obtain ⟨x0, c0, o0⟩ := opString _ _ _ _ _ _ _ _ h0
  obtain ⟨x1, c1, o1⟩ := opString _ _ _ _ _ _ _ _ h1
  obtain ⟨x2, c2, o2⟩ := opInt64 _ _ _ _ _ _ _ _ h2
  match cs, hl with
  | [a0, a1, a2], _ =>
    exact ⟨⟨x0, x1, x2⟩, ⟨c0.1, c1.1, c2.1, trivial⟩, o0, o1, o2⟩
theorem cellsStoredS : Tryz.prog.cellsOf 52 = 1 := by kernel_rfl
theorem opStoredS : OpensA Tryz.prog 52 (fun xs : List DStored => [.row true 3 (xs.map DStored.enc)]) (fun x : List DStored => x.length ≤ 9223372036854775807 ∧ ∀ y ∈ x, y.it) := opensA_slice Tryz.underlying52 cellsStored (by decide) (fun _ => rfl) (fun _ => rfl) opStored
theorem cellsDrive : Tryz.prog.cellsOf 54 = 2 := by kernel_rfl
theorem opDrive : OpensA Tryz.prog 54 DDrive.enc (fun x : DDrive => x.it) := fun H enc w spare held fuel cs x h => by
  obtain ⟨hl, hf⟩ := opensA_fields Tryz.underlying54 cellsDrive h
  obtain ⟨n0, y0, h0⟩ := hf 0 _ _ _ rfl cellsStoredS
  obtain ⟨n1, y1, h1⟩ := hf 1 _ _ _ rfl cellsInt64
  obtain ⟨x0, c0, o0⟩ := opStoredS _ _ _ _ _ _ _ _ h0
  obtain ⟨x1, c1, o1⟩ := opInt64 _ _ _ _ _ _ _ _ h1
  match cs, hl with
  | [a0, a1], _ =>
    exact ⟨⟨x0, x1⟩, ⟨c0.1, c1.1, trivial⟩, o0, o1⟩
theorem cellsDriveS : Tryz.prog.cellsOf 22 = 1 := by kernel_rfl
theorem opDriveS : OpensA Tryz.prog 22 (fun xs : List DDrive => [.row true 2 (xs.map DDrive.enc)]) (fun x : List DDrive => x.length ≤ 9223372036854775807 ∧ ∀ y ∈ x, y.it) := opensA_slice Tryz.underlying22 cellsDrive (by decide) (fun _ => rfl) (fun _ => rfl) opDrive
theorem cellsArray : Tryz.prog.cellsOf 24 = 3 := by kernel_rfl
theorem opArray : OpensA Tryz.prog 24 DArray.enc (fun x : DArray => x.it) := fun H enc w spare held fuel cs x h => by
  obtain ⟨hl, hf⟩ := opensA_fields Tryz.underlying24 cellsArray h
  obtain ⟨n0, y0, h0⟩ := hf 0 _ _ _ rfl cellsInt64
  obtain ⟨n1, y1, h1⟩ := hf 1 _ _ _ rfl cellsInt64
  obtain ⟨n2, y2, h2⟩ := hf 2 _ _ _ rfl cellsDriveS
  obtain ⟨x0, c0, o0⟩ := opInt64 _ _ _ _ _ _ _ _ h0
  obtain ⟨x1, c1, o1⟩ := opInt64 _ _ _ _ _ _ _ _ h1
  obtain ⟨x2, c2, o2⟩ := opDriveS _ _ _ _ _ _ _ _ h2
  match cs, hl with
  | [a0, a1, a2], _ =>
    exact ⟨⟨x0, x1, x2⟩, ⟨c0.1, c1.1, c2.1, trivial⟩, o0, o1, o2⟩
end Go.Proofs.YtdbnppipgblajaaGreatDoor
namespace Go.Proofs.YtdbnppipgblajaaGreatDoor.fnExactPutSteps
open Go.ChangeShapes Go.WideShapes Go.ChangeAt Go.RowKit
open Go.ChangeMaps (open_string shut_string)
set_option linter.unusedVariables false
theorem own : ownKnob Tryz.prog.godebug = none := by kernel_rfl
theorem laidOut : laidOutB Tryz.prog = true := by kernel_rfl
theorem g0 : Tryz.prog.globalNamed "loop.example/g00259/impl.firstState" = some 0 := by kernel_rfl
theorem g1 : Tryz.prog.globalNamed "loop.example/g00259/impl.roots" = some 1 := by kernel_rfl
theorem g0t : (Tryz.prog.globals[0]?).map (·.type) = some 101 := by kernel_rfl
theorem g1t : (Tryz.prog.globals[1]?).map (·.type) = some 122 := by kernel_rfl
theorem c8 : Tryz.prog.cellsOf 101 = 8 := by kernel_rfl
theorem c64 : Tryz.prog.cellsOf 122 = 64 := by kernel_rfl
theorem c1 : Tryz.prog.cellsOf 100 = 1 := by kernel_rfl
/-- The numbers of a list of words. -/
def numsOf (l : List Value) : List Int := l.map fun v => match v with | .int _ n => n | _ => 0
theorem laidIs : Rows.fnExactPutStepsRow.laid = [("loop.example/g00259/impl.firstState", Lib.tabData .u32 (numsOf gv0)), ("loop.example/g00259/impl.roots", Lib.tabData .u32 (numsOf gv1))] := by kernel_rfl
theorem gv0Is : gv0 = (numsOf gv0).map fun z => Value.int .u32 z := by kernel_rfl
theorem gv1Is : gv1 = (numsOf gv1).map fun z => Value.int .u32 z := by kernel_rfl
/-- What the row's list gives: the variables hold the numbers that the program's text lays. -/
theorem tables {W : World} (h : laidMetH Tryz.prog Rows.fnExactPutStepsRow.laid W) : W.var? Tryz.prog "loop.example/g00259/impl.firstState" = some gv0.toArray ∧ W.var? Tryz.prog "loop.example/g00259/impl.roots" = some gv1.toArray := by
  rw [laidIs] at h
  have h' : laidMet Tryz.prog [("loop.example/g00259/impl.firstState", Lib.tabData .u32 (numsOf gv0)), ("loop.example/g00259/impl.roots", Lib.tabData .u32 (numsOf gv1))] W := h
  have e0 := Lib.tabIs_of_head (rest := [("loop.example/g00259/impl.roots", Lib.tabData .u32 (numsOf gv1))]) g0 g0t Tryz.underlying101 Tryz.underlying100 c1 c8 h'
  obtain ⟨ps, ⟨_, _, _, _, _, _, _, _, _, _, ⟨g', t', cs, fuel, p, q, hg', ht', hvar, hd, _, _⟩, _⟩, _⟩ := h'
  obtain rfl := Option.some.inj (g1.symm.trans hg')
  obtain rfl := Option.some.inj (g1t.symm.trans ht')
  refine ⟨?_, ?_⟩
  · have : W.var? Tryz.prog "loop.example/g00259/impl.firstState" = some ((numsOf gv0).map fun z => Value.int .u32 z).toArray := e0
    rw [this, ← gv0Is]
  · have hc := Lib.cells_of_tab Tryz.underlying122 Tryz.underlying100 c1 c64 hd
    rw [hvar, gv1Is, ← hc]
theorem glw {W : World} (h : laidMetH Tryz.prog Rows.fnExactPutStepsRow.laid W) : GlW W (fun k => k < W.heap.size) := by
  obtain ⟨e0, e1⟩ := tables h
  have key : ∀ (n : String) (g : Nat) (xs : List Value), Tryz.prog.globalNamed n = some g → W.var? Tryz.prog n = some xs.toArray → (∀ v ∈ xs, v.oneCell' = true) → g < W.heap.size ∧ g < W.heap.size ∧ ∀ (j : Nat) (v : Value), xs[j]? = some v → W.cell? ⟨g, j, none⟩ = some v ∧ v.oneCell' = true := by
    intro n g xs hg hv h1
    have hlt : g < W.heap.size := by
      simp only [World.var?, hg, Option.bind_some] at hv
      cases hh : W.heap[g]? with
      | none => rw [hh] at hv; cases hv
      | some o => exact (Array.getElem?_eq_some_iff.1 hh).1
    refine ⟨hlt, hlt, fun j v hj => ⟨?_, h1 v (List.mem_of_getElem? hj)⟩⟩
    have := World.var?_cell hg hv j
    rw [this]; simpa using hj
  intro g xs hg
  match g, hg with
  | 0, hg => cases hg; exact key _ 0 gv0 g0 e0 (fun v hv => by rw [gv0Is] at hv; obtain ⟨z, _, rfl⟩ := List.mem_map.1 hv; rfl)
  | 1, hg => cases hg; exact key _ 1 gv1 g1 e1 (fun v hv => by rw [gv1Is] at hv; obtain ⟨z, _, rfl⟩ := List.mem_map.1 hv; rfl)
  | g + 2, hg => cases hg
theorem vRowed : varsRowed Tryz.prog Rows.fnExactPutStepsSpec.vars = true := by kernel_rfl
def wArgs : Array Value := #[.agg #[.int .i64 0, .int .i64 0, .slice none 0 0], .int .i64 0, .string .empty, .string .empty]
set_option maxRecDepth 100000 in
set_option maxHeartbeats 4000000 in
theorem contract (H : Type) (enc : TypeId × Value → H) (W : World) (base : Nat) (args : Array Value) (ds gs : List (DataW H)) (before : List MemPlace)
    (hval0 : ∀ (j : Nat) t v, Tryz.f3.params[j]? = some t → args[j]? = some v → Value.okWide Tryz.prog W .any base t v)
    (hW : DataW.Whole enc Tryz.prog Tryz.f3.params.toList Rows.fnExactPutStepsSpec.vars false W args.toList ds gs before) (hL : laidMetH Tryz.prog Rows.fnExactPutStepsRow.laid W) :
    Calls Tryz.prog 3 args W fun e W' => ∃ v, e = .returned v ∧ Rows.fnExactPutStepsSpec.post enc Tryz.prog Tryz.f3 false true false false W args v W' := by
  have hval : ∀ (j : Nat) t v, Tryz.f3.params[j]? = some t → args[j]? = some v → Value.okWide Tryz.prog W .any base t v := hval0
  have hW' := hW
  obtain ⟨p, q, hA0, hV, rfl, hfz, hnd⟩ := hW
  have hA : DataW.TrodAll enc Tryz.prog W 0 (fun _ => true) true Tryz.f3.params.toList args.toList ds p := hA0
  rw [Tryz.params3] at hA hval
  obtain ⟨v0, vs0, d0, ds0, p0, q0, hargs, rfl, rfl, h0, r0⟩ := trodAll_cons hA
  obtain ⟨v1, vs1, d1, ds1, p1, q1, rfl, rfl, rfl, h1, r1⟩ := trodAll_cons r0
  obtain ⟨v2, vs2, d2, ds2, p2, q2, rfl, rfl, rfl, h2, r2⟩ := trodAll_cons r1
  obtain ⟨v3, vs3, d3, ds3, p3, q3, rfl, rfl, rfl, h3, r3⟩ := trodAll_cons r2
  obtain ⟨rfl, rfl, rfl⟩ := trodAll_nil r3
  obtain rfl : args = #[v0, v1, v2, v3] := by cases args; simp_all
  obtain ⟨g0', t0', cs0', f0', d0', p0', g1', t1', cs1', f1', d1', p1', rfl, _, _, _, _, _, _, _, _, hq⟩ := trodVars_two hV
  obtain ⟨cs0, rfl, hc0⟩ := okWide_struct Tryz.underlying24 (hval 0 24 v0 rfl rfl)
  have k0 := h0
  have lt0 : ∀ x ∈ p0, x.block < W.heap.size := by obtain ⟨m, hm⟩ := k0; exact DataW.trod_lt m _ _ _ hm
  obtain ⟨x0, C0, ok0⟩ : ∃ y : DArray, RL (cAll W) W (DArray.enc y) cs0.toList ∧ y.it := by
    obtain ⟨fuel, hf⟩ := h0
    exact opArray _ _ _ _ _ _ _ _ hf
  obtain ⟨w1, rfl⟩ := okWide_int Tryz.underlying2 (hval 1 2 v1 rfl rfl)
  have k1 := h1
  have lt1 : ∀ x ∈ p1, x.block < W.heap.size := by obtain ⟨m, hm⟩ := k1; exact DataW.trod_lt m _ _ _ hm
  obtain ⟨x1, C1, ok1⟩ : ∃ y : Int, RL (cAll W) W ((fun n : Int => [.lit (.int .i64 n)]) y) [.int .i64 w1] ∧ inI y := by
    obtain ⟨fuel, hf⟩ := h1
    exact opInt64 _ _ _ _ _ _ _ _ hf
  obtain ⟨w2, rfl⟩ := okWide_string Tryz.underlying9 (hval 2 9 v2 rfl rfl)
  have k2 := h2
  have lt2 : ∀ x ∈ p2, x.block < W.heap.size := by obtain ⟨m, hm⟩ := k2; exact DataW.trod_lt m _ _ _ hm
  obtain ⟨x2, C2, ok2⟩ : ∃ y : ByteArray, RL (cAll W) W ((fun s : ByteArray => [.lit (.string s)]) y) [.string w2] ∧ y.size ≤ 9223372036854775807 := by
    obtain ⟨fuel, hf⟩ := h2
    exact opString _ _ _ _ _ _ _ _ hf
  obtain ⟨w3, rfl⟩ := okWide_string Tryz.underlying9 (hval 3 9 v3 rfl rfl)
  have k3 := h3
  have lt3 : ∀ x ∈ p3, x.block < W.heap.size := by obtain ⟨m, hm⟩ := k3; exact DataW.trod_lt m _ _ _ hm
  obtain ⟨x3, C3, ok3⟩ : ∃ y : ByteArray, RL (cAll W) W ((fun s : ByteArray => [.lit (.string s)]) y) [.string w3] ∧ y.size ≤ 9223372036854775807 := by
    obtain ⟨fuel, hf⟩ := h3
    exact opString _ _ _ _ _ _ _ _ hf
  clear hA0 hval0
  refine ((fnExactPutSteps_c x0 ok0 x1 ok1 x2 ok2 x3 ok3).2.2 W (fun k => k < W.heap.size) #[.agg cs0, .int .i64 w1, .string w2, .string w3] (fun _ h => h) (glw hL) ⟨C0, C1.1, C2.1, C3.1, trivial⟩).mono fun e W' ⟨v, F, he, hr, _, bel⟩ => ?_
  replace bel := bel.below
  obtain ⟨hr, _⟩ := hr
  obtain rfl : v = .bool true := by
    cases hr with
    | plain _ h _ => cases h; rfl
  subst he
  exact ⟨_, rfl, _, _, _, [], _, q, hW', trodAll_mk1 (shut_bool Tryz.underlying4 _), (trodAll_cons_mk (Below.trod laidOut (by kernel_rfl) (of_decide_eq_true (by kernel_rfl)) k0 bel lt0) (trodAll_cons_mk (Below.trod laidOut (by kernel_rfl) (of_decide_eq_true (by kernel_rfl)) k1 bel lt1) (trodAll_cons_mk (Below.trod laidOut (by kernel_rfl) (of_decide_eq_true (by kernel_rfl)) k2 bel lt2) (trodAll_cons_mk (Below.trod laidOut (by kernel_rfl) (of_decide_eq_true (by kernel_rfl)) k3 bel lt3) trodAll_mk0)))), Below.trodVars laidOut bel vRowed hV, bel.frame _, fun h => by cases h⟩
def layV (xs : List Value) : Obj → Obj
  | .cells _ t frozen => .cells xs.toArray t frozen
  | o => o
noncomputable def laidWorld (os : Os) : World :=
  { World.holding Tryz.prog os ⟨#[], #[], []⟩ with heap := (Array.modify (Array.modify (World.holding Tryz.prog os ⟨#[], #[], []⟩).heap 0 (layV gv0)) 1 (layV gv1)) }
theorem laid_met (os : Os) : laidMet Tryz.prog Rows.fnExactPutStepsRow.laid ((laidWorld os).forCall (fun _ _ => 0) ⟨#[], wArgs, []⟩).memory :=
  laidMet_of_run' 8 (by kernel_rfl) (by kernel_rfl)
theorem reads (os : Os) {H : Type} (enc : TypeId × Value → H) : ∃ x, DataW.whole enc Tryz.prog ((laidWorld os).forCall (fun _ _ => 0) ⟨#[], wArgs, []⟩).memory Tryz.f3.params.toList Rows.fnExactPutStepsSpec.vars false wArgs.toList 8 = some x :=
  Option.isSome_iff_exists.1 (by kernel_rfl)
set_option maxRecDepth 100000 in
theorem lifted (os : Os) (started : os.Started) (H : Type) (enc : TypeId × Value → H) (F : Stop.Interp) :
    ReturnsInHanded {} Tryz.checked os 3 .any ((OpenSpec.ofChange Rows.fnExactPutStepsSpec).preRow enc Tryz.prog Tryz.f3 Rows.fnExactPutStepsRow.domain false Rows.fnExactPutStepsRow.laid) (((OpenSpec.ofChange Rows.fnExactPutStepsSpec).at F).post enc Tryz.prog Tryz.f3 false true false false) := by
  obtain ⟨x, hx⟩ := reads os enc
  refine returnsInHanded_of_row (C := Tryz.checked) (s := OpenSpec.ofChange Rows.fnExactPutStepsSpec) own started (by kernel_rfl) Tryz.func3
    (witness_row_at (enc := enc) (C := Tryz.checked) false (laidWorld os) wArgs rfl (by kernel_rfl) (by kernel_rfl) (by kernel_rfl)
      (OpenSpec.preRow_of_cond 8 hx rfl (fun k hk => by cases hk) (by kernel_rfl) (laid_met os))) ?_
  intro W base args ds gs before hval hW _ _ _ hL _ _
  exact contract H enc W base args ds gs before hval hW hL
set_option maxRecDepth 100000 in
theorem said : Rows.FnExactPutStepsSaid :=
  OpenClaim.holds_of_cond 3 Tryz.f3 rfl rfl rfl rfl rfl rfl rfl ⟨rfl, rfl, rfl, rfl, rfl⟩ rfl rfl rfl rfl rfl (by kernel_rfl) Tryz.func3 closed
    (of_decide_eq_true (by kernel_rfl)) (by unfold Func.isWrapper; first | (rw [if_pos (by decide +kernel)]; kernel_rfl) | (rw [if_neg (by decide +kernel)]; exact ⟨rfl, rfl⟩))
    (fun os started H enc _ F => by rw [OpenClaim.pre_eq_preRow]; exact lifted os started H enc F)
set_option maxRecDepth 100000 in
/-- No parameter wants a stand-in; the program's own looks are off: what the card asks. -/
theorem plain (f : FuncId) (fn : Func) (hf : Tryz.pinned.checked.prog.funcNamed "loop.example/g00259/laws.FnExactPutSteps" = some f) (hfn : Tryz.pinned.checked.prog.funcs[f]? = some fn) :
    false = Tryz.pinned.checked.prog.looks [] ∧ ∀ (j : Nat) t, fn.params[j]? = some t → Tryz.pinned.checked.prog.wantsStandIn t = false := by
  obtain rfl : f = 3 := Option.some.inj ((show Tryz.prog.funcNamed "loop.example/g00259/laws.FnExactPutSteps" = some 3 by kernel_rfl).symm.trans hf) |>.symm
  obtain rfl : fn = Tryz.f3 := (Option.some.inj (Tryz.func3.symm.trans hfn)).symm
  refine ⟨by kernel_rfl, fun j t ht => ?_⟩
  rw [Tryz.params3] at ht
  have hm := Array.mem_of_getElem? ht
  simp only [List.mem_toArray, List.mem_cons, List.not_mem_nil, or_false] at hm
  have w0 : Tryz.prog.wantsStandIn 24 = false := by kernel_rfl
  have w1 : Tryz.prog.wantsStandIn 2 = false := by kernel_rfl
  have w2 : Tryz.prog.wantsStandIn 9 = false := by kernel_rfl
  rcases hm with rfl | rfl | rfl | rfl <;> assumption
set_option maxRecDepth 100000 in
/-- The card. -/
theorem card : Rows.FnExactPutStepsCardSaid :=
  Claim7.holds_tied_plain_at .later [] _ _ _ _ said (fun _ h => by cases h) (by kernel_rfl) (fun _ h => by cases h) fnExactPutSteps_row_tie rfl ⟨rfl, rfl⟩ (by kernel_rfl) rfl plain (by kernel_rfl)
end Go.Proofs.YtdbnppipgblajaaGreatDoor.fnExactPutSteps
namespace Go.Proofs.YtdbnppipgblajaaGreatDoor
/-- The row's card, under a short name, for the claim. -/
theorem fnExactPutSteps_holds : Rows.FnExactPutStepsCardSaid := fnExactPutSteps.card
end Go.Proofs.YtdbnppipgblajaaGreatDoor
