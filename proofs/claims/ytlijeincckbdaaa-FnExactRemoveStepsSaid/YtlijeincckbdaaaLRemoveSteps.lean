/- The law FnExactRemoveSteps: whatever the two sides hand back alike, it returns true. -/
import Derived.Test.YtlijeincckbdaaaGm
namespace Go.Proofs.Ytlijeincckbdaaa
open Go.RowKit
set_option linter.unusedSimpArgs false
set_option linter.unusedVariables false
set_option maxRecDepth 100000
theorem lawRemoveSteps_c (x0 : DArray) (hi0 : x0.it) (x1 : ByteArray) (hi1 : x1.size ≤ 9223372036854775807)
    (H : x0.wt ≤ 1048576 → x1.size ≤ 1048576 → ∃ r : List DStep, (r.length ≤ 4294967296 ∧ ∀ y ∈ r, y.ok) ∧ (cnL DStep.cnE r ≤ 2305843009213693952) ∧ (Fun1 Try.prog 31 [.agg x0.enc, .one (.lit (.string x1))] (.one (.row true 5 (r.map DStep.enc)))) ∧ (Fun1 Try.prog 32 [.agg x0.enc, .one (.lit (.string x1))] (.one (.row true 5 (r.map DStep.enc))))) :
    Fun1 Try.prog 5 [.agg x0.enc, .one (.lit (.string x1))] (.one (.lit (.bool true))) := by
  refine law_of_vc tb_ok mix (fn := Try.f5) Try.func5 rfl (by kernel_rfl) (by kernel_rfl) (by simp [Try.f5]) rfl rfl fun u => ?_
  (conv => whnf)
  (split <;> rename_i h <;> (try simp only [decide_eq_true_eq, decide_eq_false_iff_not, Bool.not_eq_true', Bool.not_eq_false'] at h) <;> conv => whnf)
  · exact ⟨close_bool rfl, trivial⟩
  have hs1 := szF_or (x0.wt) (1048576)
  refine ⟨_, _, szArray_c x0 (1048576) hi0 (by omega) (by omega), (lends_cons (lend_agg (all2_cons (la_int (by first | rfl | omega)) (all2_cons (la_int (by first | rfl | omega)) (all2_cons (la_par 2 rfl) (all2_nil))))) (lends_cons (lend_one (la_int (by first | rfl | omega))) (lends_nil))), ?_⟩; (conv => whnf)
  (split <;> rename_i h <;> (try simp only [decide_eq_true_eq, decide_eq_false_iff_not, Bool.not_eq_true', Bool.not_eq_false'] at h) <;> conv => whnf)
  · exact ⟨close_bool rfl, trivial⟩
  have hw0 : x0.wt ≤ 1048576 := by omega
  have hw1 : x1.size ≤ 1048576 := by omega
  obtain ⟨r, hrok, hrcn, hspec, himpl⟩ := H hw0 hw1
  have hok0 := DArray.ok_of x0 hi0 (by omega)
  have hyp0 := DArray.hyp_of x0 hok0
  have hcn0 := DArray.cnV_le x0
  have hypr := hypStepS_of r hrok
  refine ⟨_, _, toArray_c x0 (by omega), (lends_cons (lend_agg (all2_cons (la_int (by first | rfl | omega)) (all2_cons (la_int (by first | rfl | omega)) (all2_cons (la_par 2 rfl) (all2_nil))))) (lends_nil)), ?_⟩; (conv => whnf)
  refine ⟨_, _, hspec, (lends_cons (lend_agg (all2_cons (la_int (by first | rfl | omega)) (all2_cons (la_int (by first | rfl | omega)) (all2_cons (la_loc rfl rfl rfl rfl rfl) (all2_nil))))) (lends_cons (lend_one (la_lit rfl)) (lends_nil))), ?_⟩; (conv => whnf)
  refine ⟨_, _, toArray_c x0 (by omega), (lends_cons (lend_agg (all2_cons (la_int (by first | rfl | omega)) (all2_cons (la_int (by first | rfl | omega)) (all2_cons (la_par 2 rfl) (all2_nil))))) (lends_nil)), ?_⟩; (conv => whnf)
  refine ⟨_, _, himpl, (lends_cons (lend_agg (all2_cons (la_int (by first | rfl | omega)) (all2_cons (la_int (by first | rfl | omega)) (all2_cons (la_loc rfl rfl rfl rfl rfl) (all2_nil))))) (lends_cons (lend_one (la_lit rfl)) (lends_nil))), ?_⟩; (conv => whnf)
  refine ⟨_, _, eqStepS_c r hrok.1 hrok.2, (lends_cons (lend_one (la_loc rfl rfl rfl rfl rfl)) (lends_cons (lend_one (la_loc rfl rfl rfl rfl rfl)) (lends_nil))), ?_⟩; (conv => whnf)
  refine ⟨_, _, toArray_c x0 (by omega), (lends_cons (lend_agg (all2_cons (la_int (by first | rfl | omega)) (all2_cons (la_int (by first | rfl | omega)) (all2_cons (la_par 2 rfl) (all2_nil))))) (lends_nil)), ?_⟩; (conv => whnf)
  refine ⟨_, _, eqArray_c x0 hok0, (lends_cons (lend_agg (all2_cons (la_int (by first | rfl | omega)) (all2_cons (la_int (by first | rfl | omega)) (all2_cons (la_loc rfl rfl rfl rfl rfl) (all2_nil))))) (lends_cons (lend_agg (all2_cons (la_int (by first | rfl | omega)) (all2_cons (la_int (by first | rfl | omega)) (all2_cons (la_loc rfl rfl rfl rfl rfl) (all2_nil))))) (lends_nil))), ?_⟩; (conv => whnf)
  refine ⟨[(1, .one (.lit (.string x1))), (2, .one (.ptr 32 0)), (6, .one (.loc 384 0 (r.map DStep.enc).length)), (8, .one (.loc 464 0 (r.map DStep.enc).length)), (39, .agg [.lit (.int .i64 x0.k), .lit (.int .i64 x0.m), .loc 418 0 (x0.drives.map DDrive.enc).length]), (40, .one (.lit (.int .i64 ((1 : Nat) : Int))))], [(2, .par (u 2) (.row true 2 (x0.drives.map DDrive.enc))), (32, .var [.lit (.int .i64 x0.k), .lit (.int .i64 x0.m), .lit (u 2)]), (384, .row true 5 (r.map DStep.enc)), (418, .row true 2 (x0.drives.map DDrive.enc)), (464, .row true 5 (r.map DStep.enc))], weak_of (all_cons rfl (all_cons rfl (all_cons rfl (all_cons rfl (all_cons rfl (all_cons rfl all_nil)))))) (all_cons rfl (all_cons rfl (all_cons rfl (all_cons rfl (all_cons rfl all_nil))))) rfl rfl, _, _, _, _, [418], markArray_c x0 (1) (by omega) (by omega) hyp0, (rens_cons (ren_agg (by repeat' (first | exact all2_nil | apply all2_cons | exact ren_lit rfl | exact ren_loc rfl rfl | exact ren_loc rfl (by simp)))) (rens_cons (ren_one (ren_int (by first | rfl | omega))) rens_nil)), (hasRows_cons rfl hasRows_nil), (by decide), rfl, (sfm_cons rfl (sfm_cons rfl (sfm_cons (sf_row (nbRow_map (fun y => DStep.enc_nb y) _)) (sfm_cons (sf_row (nbRow_map (fun y => DDrive.enc_nb y) _)) (sfm_cons (sf_row (nbRow_map (fun y => DStep.enc_nb y) _)) sfm_nil))))), rfl, ?_⟩; (conv => whnf)
  refine ⟨_, _, eqStepS_c r hrok.1 hrok.2, (lends_cons (lend_one (la_loc rfl rfl rfl rfl rfl)) (lends_cons (lend_one (la_loc rfl rfl rfl rfl rfl)) (lends_nil))), ?_⟩; (conv => whnf)
  refine ⟨[(1, .one (.lit (.string x1))), (2, .one (.ptr 32 0)), (6, .one (.loc 384 0 (r.map DStep.enc).length)), (8, .one (.loc 464 0 (r.map DStep.enc).length)), (50, .one (.loc 464 0 (r.map DStep.enc).length)), (51, .one (.lit (.int .i64 ((1 : Nat) : Int))))], [(2, .par (u 2) (.row true 2 (x0.drives.map DDrive.enc))), (32, .var [.lit (.int .i64 x0.k), .lit (.int .i64 x0.m), .lit (u 2)]), (384, .row true 5 (r.map DStep.enc)), (464, .row true 5 (r.map DStep.enc))], weak_of (all_cons rfl (all_cons rfl (all_cons rfl (all_cons rfl (all_cons rfl (all_cons rfl all_nil)))))) (all_cons rfl (all_cons rfl (all_cons rfl (all_cons rfl all_nil)))) rfl rfl, _, _, _, _, [464], markStepS_c r (1) (by omega) (by omega) hypr, (rens_cons (ren_one (ren_loc rfl (by simp))) (rens_cons (ren_one (ren_int (by first | rfl | omega))) rens_nil)), (hasRows_cons rfl hasRows_nil), (by decide), rfl, (sfm_cons rfl (sfm_cons rfl (sfm_cons (sf_row (nbRow_map (fun y => DStep.enc_nb y) _)) (sfm_cons (sf_row (nbRow_map (fun y => DStep.enc_nb y) _)) sfm_nil)))), rfl, ?_⟩; (conv => whnf)
  refine ⟨_, _, heldStepS_c r (1) (by omega) (by omega) hypr, (lends_cons (lend_one (la_loc rfl rfl rfl (by simp [mkL_length]) rfl)) (lends_cons (lend_one (la_int (by first | rfl | omega))) (lends_nil))), ?_⟩; (conv => whnf)
  (first | (split <;> rename_i h <;> first | (exfalso; first | (simp at h; done) | (simp at h; omega) | (simp_all; done) | (simp_all; omega)) | (conv => whnf)) | skip)
  refine ⟨_, _, toArray_c x0 (by omega), (lends_cons (lend_agg (all2_cons (la_int (by first | rfl | omega)) (all2_cons (la_int (by first | rfl | omega)) (all2_cons (la_par 2 rfl) (all2_nil))))) (lends_nil)), ?_⟩; (conv => whnf)
  refine ⟨_, _, himpl, (lends_cons (lend_agg (all2_cons (la_int (by first | rfl | omega)) (all2_cons (la_int (by first | rfl | omega)) (all2_cons (la_loc rfl rfl rfl rfl rfl) (all2_nil))))) (lends_cons (lend_one (la_lit rfl)) (lends_nil))), ?_⟩; (conv => whnf)
  refine ⟨_, _, eqStepS_c r hrok.1 hrok.2, (lends_cons (lend_one (la_loc rfl rfl rfl rfl rfl)) (lends_cons (lend_one (la_loc rfl rfl rfl rfl rfl)) (lends_nil))), ?_⟩; (conv => whnf)
  refine ⟨_, _, heldStepS_c r (1) (by omega) (by omega) hypr, (lends_cons (lend_one (la_loc rfl rfl rfl (by simp [mkL_length]) rfl)) (lends_cons (lend_one (la_int (by first | rfl | omega))) (lends_nil))), ?_⟩; (conv => whnf)
  (first | (split <;> rename_i h <;> first | (exfalso; first | (simp at h; done) | (simp at h; omega) | (simp_all; done) | (simp_all; omega)) | (conv => whnf)) | skip)
  exact ⟨close_bool rfl, trivial⟩
end Go.Proofs.Ytlijeincckbdaaa
