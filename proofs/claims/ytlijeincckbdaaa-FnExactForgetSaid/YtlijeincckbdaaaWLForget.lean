/- Forget: the program and the reference hand back the same, so the law returns true. -/
import Derived.Test.YtlijeincckbdaaaQg
import Derived.Test.YtlijeincckbdaaaQu
namespace Go.Proofs.Ytlijeincckbdaaa
open Go.RowKit
set_option linter.unusedSimpArgs false
set_option linter.unusedVariables false
set_option maxRecDepth 100000
theorem lawForget_c (x0 : DPolicy) (hi0 : x0.it) (x1 : List DSnap) (hi1 : x1.length ≤ 9223372036854775807 ∧ ∀ y ∈ x1, y.it)
    (H : wL DSnap.wt x1 ≤ 1048576 → ∃ r : List ByteArray, (r.length ≤ 4294967296 ∧ ∀ y ∈ r, y.size ≤ 4294967296) ∧ (cnL (fun _ => 1) r ≤ 2305843009213693952) ∧ (Fun1 Try.prog 61 [.agg x0.enc, .one (.row true 3 (x1.map DSnap.enc))] (.one (.row true 1 (r.map eStr)))) ∧ (Fun1 Try.prog 64 [.agg x0.enc, .one (.row true 3 (x1.map DSnap.enc))] (.one (.row true 1 (r.map eStr))))) :
    Fun1 Try.prog 12 [.agg x0.enc, .one (.row true 3 (x1.map DSnap.enc))] (.one (.lit (.bool true))) := by
  refine law_of_vc tb_ok mix (fn := Try.f12) Try.func12 rfl (by kernel_rfl) (by kernel_rfl) (by simp [Try.f12]) rfl rfl fun u => ?_
  (conv => whnf)
  have hs1 := szF_or (wL DSnap.wt x1) (1048576)
  refine ⟨_, _, szSnapS_c x1 (1048576) hi1.1 hi1.2 (by omega) (by omega), (lends_cons (lend_one (la_par 4 rfl)) (lends_cons (lend_one (la_int (by first | rfl | omega))) (lends_nil))), ?_⟩; (conv => whnf)
  (split <;> rename_i h <;> (try simp only [decide_eq_true_eq, decide_eq_false_iff_not, Bool.not_eq_true', Bool.not_eq_false', Bool.not_eq_true, Bool.not_eq_false, List.length_map] at h) <;> conv => whnf)
  · exact ⟨close_bool rfl, trivial⟩
  have hw1 : wL DSnap.wt x1 ≤ 1048576 := by omega
  obtain ⟨r, hrok, hrcn, hspec, himpl⟩ := H hw1
  have hok1 := okSnapS_of x1 hi1 (by omega)
  have hyp1 := hypSnapS_of x1 hok1
  have hcn1 := cnSnapS_le x1
  have hypr := hypStringS_of r hrok
  refine ⟨_, _, toPolicy_c x0, (lends_cons (lend_agg (all2_cons (la_int (by first | rfl | omega)) (all2_cons (la_int (by first | rfl | omega)) (all2_cons (la_int (by first | rfl | omega)) (all2_cons (la_int (by first | rfl | omega)) (all2_nil)))))) (lends_nil)), ?_⟩; (conv => whnf)
  refine ⟨_, _, toSnapS_c x1 (by omega), (lends_cons (lend_one (la_par 4 rfl)) (lends_nil)), ?_⟩; (conv => whnf)
  refine ⟨_, _, hspec, (lends_cons (lend_agg (all2_cons (la_int (by first | rfl | omega)) (all2_cons (la_int (by first | rfl | omega)) (all2_cons (la_int (by first | rfl | omega)) (all2_cons (la_int (by first | rfl | omega)) (all2_nil)))))) (lends_cons (lend_one (la_loc rfl rfl rfl rfl rfl)) (lends_nil))), ?_⟩; (conv => whnf)
  refine ⟨_, _, toSnapS_c x1 (by omega), (lends_cons (lend_one (la_par 4 rfl)) (lends_nil)), ?_⟩; (conv => whnf)
  refine ⟨_, _, toPolicy_c x0, (lends_cons (lend_agg (all2_cons (la_int (by first | rfl | omega)) (all2_cons (la_int (by first | rfl | omega)) (all2_cons (la_int (by first | rfl | omega)) (all2_cons (la_int (by first | rfl | omega)) (all2_nil)))))) (lends_nil)), ?_⟩; (conv => whnf)
  refine ⟨_, _, himpl, (lends_cons (lend_agg (all2_cons (la_int (by first | rfl | omega)) (all2_cons (la_int (by first | rfl | omega)) (all2_cons (la_int (by first | rfl | omega)) (all2_cons (la_int (by first | rfl | omega)) (all2_nil)))))) (lends_cons (lend_one (la_loc rfl rfl rfl rfl rfl)) (lends_nil))), ?_⟩; (conv => whnf)
  refine ⟨_, _, eqStringS_c r hrok.1 hrok.2, (lends_cons (lend_one (la_loc rfl rfl rfl rfl rfl)) (lends_cons (lend_one (la_loc rfl rfl rfl rfl rfl)) (lends_nil))), ?_⟩; (conv => whnf)
  refine ⟨_, _, toSnapS_c x1 (by omega), (lends_cons (lend_one (la_par 4 rfl)) (lends_nil)), ?_⟩; (conv => whnf)
  refine ⟨_, _, eqSnapS_c x1 hok1.1 hok1.2, (lends_cons (lend_one (la_loc rfl rfl rfl rfl rfl)) (lends_cons (lend_one (la_loc rfl rfl rfl rfl rfl)) (lends_nil))), ?_⟩; (conv => whnf)
  refine ⟨[(1, .one (.lit (u 4))), (2, .one (.ptr 32 0)), (6, .one (.loc 352 0 (r.map eStr).length)), (8, .one (.loc 448 0 (r.map eStr).length)), (38, .one (.loc 384 0 (x1.map DSnap.enc).length)), (39, .one (.lit (.int .i64 ((1 : Nat) : Int))))], [(4, .par (u 4) (.row true 3 (x1.map DSnap.enc))), (32, .var [.lit (.int .i64 x0.last), .lit (.int .i64 x0.days), .lit (.int .i64 x0.weeks), .lit (.int .i64 x0.months)]), (352, .row true 1 (r.map eStr)), (384, .row true 3 (x1.map DSnap.enc)), (448, .row true 1 (r.map eStr))], weak_of (all_cons rfl (all_cons rfl (all_cons rfl (all_cons rfl (all_cons rfl (all_cons rfl all_nil)))))) (all_cons rfl (all_cons rfl (all_cons rfl (all_cons rfl (all_cons rfl all_nil))))) rfl rfl, _, _, _, _, [384], markSnapS_c x1 (1) (by omega) (by omega) hyp1, (rens_cons (ren_one (ren_loc rfl (by simp))) (rens_cons (ren_one (ren_int (by first | rfl | omega))) rens_nil)), (hasRows_cons rfl hasRows_nil), (by decide), rfl, (sfm_cons rfl (sfm_cons rfl (sfm_cons (sf_row (nbRow_map (fun y => eStr_nb y) _)) (sfm_cons (sf_row (nbRow_map (fun y => DSnap.enc_nb y) _)) (sfm_cons (sf_row (nbRow_map (fun y => eStr_nb y) _)) sfm_nil))))), rfl, ?_⟩; (conv => whnf)
  refine ⟨_, _, eqStringS_c r hrok.1 hrok.2, (lends_cons (lend_one (la_loc rfl rfl rfl rfl rfl)) (lends_cons (lend_one (la_loc rfl rfl rfl rfl rfl)) (lends_nil))), ?_⟩; (conv => whnf)
  refine ⟨[(1, .one (.lit (u 4))), (2, .one (.ptr 32 0)), (6, .one (.loc 352 0 (r.map eStr).length)), (8, .one (.loc 448 0 (r.map eStr).length)), (49, .one (.loc 448 0 (r.map eStr).length)), (50, .one (.lit (.int .i64 ((1 : Nat) : Int))))], [(4, .par (u 4) (.row true 3 (x1.map DSnap.enc))), (32, .var [.lit (.int .i64 x0.last), .lit (.int .i64 x0.days), .lit (.int .i64 x0.weeks), .lit (.int .i64 x0.months)]), (352, .row true 1 (r.map eStr)), (448, .row true 1 (r.map eStr))], weak_of (all_cons rfl (all_cons rfl (all_cons rfl (all_cons rfl (all_cons rfl (all_cons rfl all_nil)))))) (all_cons rfl (all_cons rfl (all_cons rfl (all_cons rfl all_nil)))) rfl rfl, _, _, _, _, [448], markStringS_c r (1) (by omega) (by omega) hypr, (rens_cons (ren_one (ren_loc rfl (by simp))) (rens_cons (ren_one (ren_int (by first | rfl | omega))) rens_nil)), (hasRows_cons rfl hasRows_nil), (by decide), rfl, (sfm_cons rfl (sfm_cons rfl (sfm_cons (sf_row (nbRow_map (fun y => eStr_nb y) _)) (sfm_cons (sf_row (nbRow_map (fun y => eStr_nb y) _)) sfm_nil)))), rfl, ?_⟩; (conv => whnf)
  refine ⟨_, _, heldStringS_c r (1) (by omega) (by omega) hypr, (lends_cons (lend_one (la_loc rfl rfl rfl (by simp [mkL_length]) rfl)) (lends_cons (lend_one (la_int (by first | rfl | omega))) (lends_nil))), ?_⟩; (conv => whnf)
  (first | (split <;> rename_i h <;> first | (exfalso; first | (simp at h; done) | (simp at h; omega) | (simp_all; done) | (simp_all; omega)) | (conv => whnf)) | skip)
  refine ⟨_, _, toPolicy_c x0, (lends_cons (lend_agg (all2_cons (la_int (by first | rfl | omega)) (all2_cons (la_int (by first | rfl | omega)) (all2_cons (la_int (by first | rfl | omega)) (all2_cons (la_int (by first | rfl | omega)) (all2_nil)))))) (lends_nil)), ?_⟩; (conv => whnf)
  refine ⟨_, _, toSnapS_c x1 (by omega), (lends_cons (lend_one (la_par 4 rfl)) (lends_nil)), ?_⟩; (conv => whnf)
  refine ⟨_, _, himpl, (lends_cons (lend_agg (all2_cons (la_int (by first | rfl | omega)) (all2_cons (la_int (by first | rfl | omega)) (all2_cons (la_int (by first | rfl | omega)) (all2_cons (la_int (by first | rfl | omega)) (all2_nil)))))) (lends_cons (lend_one (la_loc rfl rfl rfl rfl rfl)) (lends_nil))), ?_⟩; (conv => whnf)
  refine ⟨_, _, eqStringS_c r hrok.1 hrok.2, (lends_cons (lend_one (la_loc rfl rfl rfl rfl rfl)) (lends_cons (lend_one (la_loc rfl rfl rfl rfl rfl)) (lends_nil))), ?_⟩; (conv => whnf)
  refine ⟨_, _, heldStringS_c r (1) (by omega) (by omega) hypr, (lends_cons (lend_one (la_loc rfl rfl rfl (by simp [mkL_length]) rfl)) (lends_cons (lend_one (la_int (by first | rfl | omega))) (lends_nil))), ?_⟩; (conv => whnf)
  (first | (split <;> rename_i h <;> first | (exfalso; first | (simp at h; done) | (simp at h; omega) | (simp_all; done) | (simp_all; omega)) | (conv => whnf)) | skip)
  exact ⟨close_bool rfl, trivial⟩
end Go.Proofs.Ytlijeincckbdaaa
namespace Go.Proofs.Ytlijeincckbdaaa
open Go.RowKit
set_option linter.unusedSimpArgs false
set_option linter.unusedVariables false
theorem chooseN_sub {p : DPolicy} {l : List DSnap} {is : Bool} {y : ByteArray} (h : y ∈ chooseN p l is) : ∃ s ∈ l, y = s.name := by
  unfold chooseN at h
  split at h
  · simp only [List.mem_map, List.mem_filter] at h
    obtain ⟨s, ⟨h1, _⟩, rfl⟩ := h
    exact ⟨s, h1, rfl⟩
  · cases h
theorem chooseN_len (p : DPolicy) (l : List DSnap) (is : Bool) : (chooseN p l is).length ≤ l.length := by
  unfold chooseN
  split
  · rw [List.length_map]; exact List.length_filter_le _ _
  · simp
theorem cn1 (l : List ByteArray) : cnL (fun _ => 1) l = l.length := by
  unfold cnL
  induction l with
  | nil => rfl
  | cons x l ih => simp only [List.map_cons, List.sum_cons, List.length_cons, ih]; omega
theorem fnExactForget_c (x0 : DPolicy) (h0 : x0.it) (x1 : List DSnap) (h1 : x1.length ≤ 9223372036854775807 ∧ ∀ y ∈ x1, y.it) :
    Fun1 Try.prog 12 [.agg x0.enc, .one (.row true 3 (x1.map DSnap.enc))] (.one (.lit (.bool true))) := by
  refine lawForget_c x0 h0 x1 h1 fun hw => ?_
  have hok := okSnapS_of x1 h1 (by omega)
  have hl := chooseN_len x0 x1 false
  have hle : x1.length ≤ 4294967295 := by
    have : wL DSnap.wt x1 = x1.length + _ := rfl
    omega
  refine ⟨chooseN x0 x1 false, ⟨by omega, fun y hy => ?_⟩, by rw [cn1]; omega, forgetSpec_c x0 x1 hle hok.2, forgetImpl_c x0 x1 hle hok.2⟩
  obtain ⟨s, hs, rfl⟩ := chooseN_sub hy
  exact (hok.2 s hs).1
end Go.Proofs.Ytlijeincckbdaaa
