/- StepsDo: the program and the reference hand back the same, so the law returns true. -/
import Derived.Test.YtlijeincckbdaaaQg
import Derived.Test.YtlijeincckbdaaaQm
namespace Go.Proofs.Ytlijeincckbdaaa
open Go.RowKit
set_option linter.unusedSimpArgs false
set_option linter.unusedVariables false
set_option maxRecDepth 100000
theorem lawStepsDo_c (x0 : DArray) (hi0 : x0.it) (x1 : List DStep) (hi1 : x1.length ≤ 9223372036854775807 ∧ ∀ y ∈ x1, y.it) (x2 : Int) (hi2 : inI x2)
    (H : x0.wt ≤ 1048576 → wL DStep.wt x1 ≤ 1048576 → ∃ r : DArrayOut, (r.ok) ∧ (r.cnV ≤ 2305843009213693952) ∧ (Fun1 Try.prog 78 [.agg x0.enc, .one (.row true 5 (x1.map DStep.enc)), .one (.lit (.int .i64 x2))] (.agg r.enc)) ∧ (Fun1 Try.prog 80 [.agg x0.enc, .one (.row true 5 (x1.map DStep.enc)), .one (.lit (.int .i64 x2))] (.agg r.enc))) :
    Fun1 Try.prog 14 [.agg x0.enc, .one (.row true 5 (x1.map DStep.enc)), .one (.lit (.int .i64 x2))] (.one (.lit (.bool true))) := by
  refine law_of_vc tb_ok mix (fn := Try.f14) Try.func14 rfl (by kernel_rfl) (by kernel_rfl) (by simp [Try.f14]) rfl rfl fun u => ?_
  (conv => whnf)
  have hs1 := szF_or (x0.wt) (1048576)
  refine ⟨_, _, szArray_c x0 (1048576) hi0 (by omega) (by omega), (lends_cons (lend_agg (all2_cons (la_int (by first | rfl | omega)) (all2_cons (la_int (by first | rfl | omega)) (all2_cons (la_par 2 rfl) (all2_nil))))) (lends_cons (lend_one (la_int (by first | rfl | omega))) (lends_nil))), ?_⟩; (conv => whnf)
  (split <;> rename_i h <;> (try simp only [decide_eq_true_eq, decide_eq_false_iff_not, Bool.not_eq_true', Bool.not_eq_false', Bool.not_eq_true, Bool.not_eq_false, List.length_map] at h) <;> conv => whnf)
  · exact ⟨close_bool rfl, trivial⟩
  have hs2 := szF_or (wL DStep.wt x1) (szF (x0.wt) (1048576))
  refine ⟨_, _, szStepS_c x1 (szF (x0.wt) (1048576)) hi1.1 hi1.2 (by omega) (by omega), (lends_cons (lend_one (la_par 3 rfl)) (lends_cons (lend_one (la_int (by first | rfl | omega))) (lends_nil))), ?_⟩; (conv => whnf)
  (split <;> rename_i h <;> (try simp only [decide_eq_true_eq, decide_eq_false_iff_not, Bool.not_eq_true', Bool.not_eq_false', Bool.not_eq_true, Bool.not_eq_false, List.length_map] at h) <;> conv => whnf)
  · exact ⟨close_bool rfl, trivial⟩
  have hw0 : x0.wt ≤ 1048576 := by omega
  have hw1 : wL DStep.wt x1 ≤ 1048576 := by omega
  obtain ⟨r, hrok, hrcn, hspec, himpl⟩ := H hw0 hw1
  have hok0 := DArray.ok_of x0 hi0 (by omega)
  have hyp0 := DArray.hyp_of x0 hok0
  have hcn0 := DArray.cnV_le x0
  have hok1 := okStepS_of x1 hi1 (by omega)
  have hyp1 := hypStepS_of x1 hok1
  have hcn1 := cnStepS_le x1
  have hypr := DArrayOut.hyp_of r hrok
  refine ⟨_, _, toArray_c x0 (by omega), (lends_cons (lend_agg (all2_cons (la_int (by first | rfl | omega)) (all2_cons (la_int (by first | rfl | omega)) (all2_cons (la_par 2 rfl) (all2_nil))))) (lends_nil)), ?_⟩; (conv => whnf)
  refine ⟨_, _, toStepS_c x1 (by omega), (lends_cons (lend_one (la_par 3 rfl)) (lends_nil)), ?_⟩; (conv => whnf)
  refine ⟨_, _, hspec, (lends_cons (lend_agg (all2_cons (la_int (by first | rfl | omega)) (all2_cons (la_int (by first | rfl | omega)) (all2_cons (la_loc rfl rfl rfl rfl rfl) (all2_nil))))) (lends_cons (lend_one (la_loc rfl rfl rfl rfl rfl)) (lends_cons (lend_one (la_int (by first | rfl | omega))) (lends_nil)))), ?_⟩; (conv => whnf)
  refine ⟨_, _, toArray_c x0 (by omega), (lends_cons (lend_agg (all2_cons (la_int (by first | rfl | omega)) (all2_cons (la_int (by first | rfl | omega)) (all2_cons (la_par 2 rfl) (all2_nil))))) (lends_nil)), ?_⟩; (conv => whnf)
  refine ⟨_, _, toStepS_c x1 (by omega), (lends_cons (lend_one (la_par 3 rfl)) (lends_nil)), ?_⟩; (conv => whnf)
  refine ⟨_, _, himpl, (lends_cons (lend_agg (all2_cons (la_int (by first | rfl | omega)) (all2_cons (la_int (by first | rfl | omega)) (all2_cons (la_loc rfl rfl rfl rfl rfl) (all2_nil))))) (lends_cons (lend_one (la_loc rfl rfl rfl rfl rfl)) (lends_cons (lend_one (la_int (by first | rfl | omega))) (lends_nil)))), ?_⟩; (conv => whnf)
  refine ⟨_, _, eqArrayOut_c r hrok, (lends_cons (lend_agg (all2_cons (la_int (by first | rfl | omega)) (all2_cons (la_int (by first | rfl | omega)) (all2_cons (la_loc rfl rfl rfl rfl rfl) (all2_cons (la_int (by first | rfl | omega)) (all2_cons (la_int (by first | rfl | omega)) (all2_nil))))))) (lends_cons (lend_agg (all2_cons (la_int (by first | rfl | omega)) (all2_cons (la_int (by first | rfl | omega)) (all2_cons (la_loc rfl rfl rfl rfl rfl) (all2_cons (la_int (by first | rfl | omega)) (all2_cons (la_int (by first | rfl | omega)) (all2_nil))))))) (lends_nil))), ?_⟩; (conv => whnf)
  refine ⟨_, _, toArray_c x0 (by omega), (lends_cons (lend_agg (all2_cons (la_int (by first | rfl | omega)) (all2_cons (la_int (by first | rfl | omega)) (all2_cons (la_par 2 rfl) (all2_nil))))) (lends_nil)), ?_⟩; (conv => whnf)
  refine ⟨_, _, eqArray_c x0 hok0, (lends_cons (lend_agg (all2_cons (la_int (by first | rfl | omega)) (all2_cons (la_int (by first | rfl | omega)) (all2_cons (la_loc rfl rfl rfl rfl rfl) (all2_nil))))) (lends_cons (lend_agg (all2_cons (la_int (by first | rfl | omega)) (all2_cons (la_int (by first | rfl | omega)) (all2_cons (la_loc rfl rfl rfl rfl rfl) (all2_nil))))) (lends_nil))), ?_⟩; (conv => whnf)
  refine ⟨_, _, toStepS_c x1 (by omega), (lends_cons (lend_one (la_par 3 rfl)) (lends_nil)), ?_⟩; (conv => whnf)
  refine ⟨_, _, eqStepS_c x1 hok1.1 hok1.2, (lends_cons (lend_one (la_loc rfl rfl rfl rfl rfl)) (lends_cons (lend_one (la_loc rfl rfl rfl rfl rfl)) (lends_nil))), ?_⟩; (conv => whnf)
  refine ⟨[(1, .one (.lit (u 3))), (2, .one (.lit (.int .i64 x2))), (3, .one (.ptr 48 0)), (8, .one (.ptr 128 0)), (10, .one (.loc 560 0 (x1.map DStep.enc).length)), (11, .one (.ptr 176 0)), (54, .agg [.lit (.int .i64 x0.k), .lit (.int .i64 x0.m), .loc 530 0 (x0.drives.map DDrive.enc).length]), (55, .one (.lit (.int .i64 ((1 : Nat) : Int))))], [(2, .par (u 2) (.row true 2 (x0.drives.map DDrive.enc))), (3, .par (u 3) (.row true 5 (x1.map DStep.enc))), (48, .var [.lit (.int .i64 x0.k), .lit (.int .i64 x0.m), .lit (u 2)]), (128, .var [.lit (.int .i64 r.array.k), .lit (.int .i64 r.array.m), .loc 498 0 (r.array.drives.map DDrive.enc).length, .lit (.int .i64 r.done), .lit (.int .i64 r.code)]), (176, .var [.lit (.int .i64 r.array.k), .lit (.int .i64 r.array.m), .loc 626 0 (r.array.drives.map DDrive.enc).length, .lit (.int .i64 r.done), .lit (.int .i64 r.code)]), (498, .row true 2 (r.array.drives.map DDrive.enc)), (530, .row true 2 (x0.drives.map DDrive.enc)), (560, .row true 5 (x1.map DStep.enc)), (626, .row true 2 (r.array.drives.map DDrive.enc))], weak_of (all_cons rfl (all_cons rfl (all_cons rfl (all_cons rfl (all_cons rfl (all_cons rfl (all_cons rfl (all_cons rfl all_nil)))))))) (all_cons rfl (all_cons rfl (all_cons rfl (all_cons rfl (all_cons rfl (all_cons rfl (all_cons rfl (all_cons rfl (all_cons rfl all_nil))))))))) rfl rfl, _, _, _, _, [530], markArray_c x0 (1) (by omega) (by omega) hyp0, (rens_cons (ren_agg (by repeat' (first | exact all2_nil | apply all2_cons | exact ren_lit rfl | exact ren_loc rfl rfl | exact ren_loc rfl (by simp)))) (rens_cons (ren_one (ren_int (by first | rfl | omega))) rens_nil)), (hasRows_cons rfl hasRows_nil), (by decide), rfl, (sfm_cons rfl (sfm_cons rfl (sfm_cons rfl (sfm_cons rfl (sfm_cons rfl (sfm_cons (sf_row (nbRow_map (fun y => DDrive.enc_nb y) _)) (sfm_cons (sf_row (nbRow_map (fun y => DDrive.enc_nb y) _)) (sfm_cons (sf_row (nbRow_map (fun y => DStep.enc_nb y) _)) (sfm_cons (sf_row (nbRow_map (fun y => DDrive.enc_nb y) _)) sfm_nil))))))))), rfl, ?_⟩; (conv => whnf)
  refine ⟨[(1, .one (.lit (u 3))), (2, .one (.lit (.int .i64 x2))), (3, .one (.ptr 48 0)), (8, .one (.ptr 128 0)), (11, .one (.ptr 176 0)), (57, .one (.loc 560 0 (x1.map DStep.enc).length)), (58, .one (.lit (.int .i64 ((1 + x0.cnV : Nat) : Int))))], [(2, .par (u 2) (.row true 2 (x0.drives.map DDrive.enc))), (3, .par (u 3) (.row true 5 (x1.map DStep.enc))), (48, .var [.lit (.int .i64 x0.k), .lit (.int .i64 x0.m), .lit (u 2)]), (128, .var [.lit (.int .i64 r.array.k), .lit (.int .i64 r.array.m), .loc 498 0 (r.array.drives.map DDrive.enc).length, .lit (.int .i64 r.done), .lit (.int .i64 r.code)]), (176, .var [.lit (.int .i64 r.array.k), .lit (.int .i64 r.array.m), .loc 626 0 (r.array.drives.map DDrive.enc).length, .lit (.int .i64 r.done), .lit (.int .i64 r.code)]), (498, .row true 2 (r.array.drives.map DDrive.enc)), (560, .row true 5 (x1.map DStep.enc)), (626, .row true 2 (r.array.drives.map DDrive.enc))], weak_of (all_cons rfl (all_cons rfl (all_cons rfl (all_cons rfl (all_cons rfl (all_cons rfl (all_cons rfl all_nil))))))) (all_cons rfl (all_cons rfl (all_cons rfl (all_cons rfl (all_cons rfl (all_cons rfl (all_cons rfl (all_cons rfl all_nil)))))))) rfl rfl, _, _, _, _, [560], markStepS_c x1 (1 + x0.cnV) (by omega) (by omega) hyp1, (rens_cons (ren_one (ren_loc rfl (by simp))) (rens_cons (ren_one (ren_int (by first | rfl | omega))) rens_nil)), (hasRows_cons rfl hasRows_nil), (by decide), rfl, (sfm_cons rfl (sfm_cons rfl (sfm_cons rfl (sfm_cons rfl (sfm_cons rfl (sfm_cons (sf_row (nbRow_map (fun y => DDrive.enc_nb y) _)) (sfm_cons (sf_row (nbRow_map (fun y => DStep.enc_nb y) _)) (sfm_cons (sf_row (nbRow_map (fun y => DDrive.enc_nb y) _)) sfm_nil)))))))), rfl, ?_⟩; (conv => whnf)
  refine ⟨_, _, eqArrayOut_c r hrok, (lends_cons (lend_agg (all2_cons (la_int (by first | rfl | omega)) (all2_cons (la_int (by first | rfl | omega)) (all2_cons (la_loc rfl rfl rfl rfl rfl) (all2_cons (la_int (by first | rfl | omega)) (all2_cons (la_int (by first | rfl | omega)) (all2_nil))))))) (lends_cons (lend_agg (all2_cons (la_int (by first | rfl | omega)) (all2_cons (la_int (by first | rfl | omega)) (all2_cons (la_loc rfl rfl rfl rfl rfl) (all2_cons (la_int (by first | rfl | omega)) (all2_cons (la_int (by first | rfl | omega)) (all2_nil))))))) (lends_nil))), ?_⟩; (conv => whnf)
  refine ⟨[(1, .one (.lit (u 3))), (2, .one (.lit (.int .i64 x2))), (3, .one (.ptr 48 0)), (8, .one (.ptr 128 0)), (11, .one (.ptr 176 0)), (68, .agg [.lit (.int .i64 r.array.k), .lit (.int .i64 r.array.m), .loc 626 0 (r.array.drives.map DDrive.enc).length, .lit (.int .i64 r.done), .lit (.int .i64 r.code)]), (69, .one (.lit (.int .i64 ((1 : Nat) : Int))))], [(2, .par (u 2) (.row true 2 (x0.drives.map DDrive.enc))), (3, .par (u 3) (.row true 5 (x1.map DStep.enc))), (48, .var [.lit (.int .i64 x0.k), .lit (.int .i64 x0.m), .lit (u 2)]), (128, .var [.lit (.int .i64 r.array.k), .lit (.int .i64 r.array.m), .loc 498 0 (r.array.drives.map DDrive.enc).length, .lit (.int .i64 r.done), .lit (.int .i64 r.code)]), (176, .var [.lit (.int .i64 r.array.k), .lit (.int .i64 r.array.m), .loc 626 0 (r.array.drives.map DDrive.enc).length, .lit (.int .i64 r.done), .lit (.int .i64 r.code)]), (498, .row true 2 (r.array.drives.map DDrive.enc)), (626, .row true 2 (r.array.drives.map DDrive.enc))], weak_of (all_cons rfl (all_cons rfl (all_cons rfl (all_cons rfl (all_cons rfl (all_cons rfl (all_cons rfl all_nil))))))) (all_cons rfl (all_cons rfl (all_cons rfl (all_cons rfl (all_cons rfl (all_cons rfl (all_cons rfl all_nil))))))) rfl rfl, _, _, _, _, [626], markArrayOut_c r (1) (by omega) (by omega) hypr, (rens_cons (ren_agg (by repeat' (first | exact all2_nil | apply all2_cons | exact ren_lit rfl | exact ren_loc rfl rfl | exact ren_loc rfl (by simp)))) (rens_cons (ren_one (ren_int (by first | rfl | omega))) rens_nil)), (hasRows_cons rfl hasRows_nil), (by decide), rfl, (sfm_cons rfl (sfm_cons rfl (sfm_cons rfl (sfm_cons rfl (sfm_cons rfl (sfm_cons (sf_row (nbRow_map (fun y => DDrive.enc_nb y) _)) (sfm_cons (sf_row (nbRow_map (fun y => DDrive.enc_nb y) _)) sfm_nil))))))), rfl, ?_⟩; (conv => whnf)
  refine ⟨_, _, heldArrayOut_c r (1) (by omega) (by omega) hypr, (lends_cons (lend_agg (all2_cons (la_int (by first | rfl | omega)) (all2_cons (la_int (by first | rfl | omega)) (all2_cons (la_loc rfl rfl rfl (by simp [mkL_length]) rfl) (all2_cons (la_int (by first | rfl | omega)) (all2_cons (la_int (by first | rfl | omega)) (all2_nil))))))) (lends_cons (lend_one (la_int (by first | rfl | omega))) (lends_nil))), ?_⟩; (conv => whnf)
  (first | (split <;> rename_i h <;> first | (exfalso; first | (simp at h; done) | (simp at h; omega) | (simp_all; done) | (simp_all; omega)) | (conv => whnf)) | skip)
  refine ⟨_, _, toArray_c x0 (by omega), (lends_cons (lend_agg (all2_cons (la_int (by first | rfl | omega)) (all2_cons (la_int (by first | rfl | omega)) (all2_cons (la_par 2 rfl) (all2_nil))))) (lends_nil)), ?_⟩; (conv => whnf)
  refine ⟨_, _, toStepS_c x1 (by omega), (lends_cons (lend_one (la_par 3 rfl)) (lends_nil)), ?_⟩; (conv => whnf)
  refine ⟨_, _, himpl, (lends_cons (lend_agg (all2_cons (la_int (by first | rfl | omega)) (all2_cons (la_int (by first | rfl | omega)) (all2_cons (la_loc rfl rfl rfl rfl rfl) (all2_nil))))) (lends_cons (lend_one (la_loc rfl rfl rfl rfl rfl)) (lends_cons (lend_one (la_int (by first | rfl | omega))) (lends_nil)))), ?_⟩; (conv => whnf)
  refine ⟨_, _, eqArrayOut_c r hrok, (lends_cons (lend_agg (all2_cons (la_int (by first | rfl | omega)) (all2_cons (la_int (by first | rfl | omega)) (all2_cons (la_loc rfl rfl rfl rfl rfl) (all2_cons (la_int (by first | rfl | omega)) (all2_cons (la_int (by first | rfl | omega)) (all2_nil))))))) (lends_cons (lend_agg (all2_cons (la_int (by first | rfl | omega)) (all2_cons (la_int (by first | rfl | omega)) (all2_cons (la_loc rfl rfl rfl rfl rfl) (all2_cons (la_int (by first | rfl | omega)) (all2_cons (la_int (by first | rfl | omega)) (all2_nil))))))) (lends_nil))), ?_⟩; (conv => whnf)
  refine ⟨_, _, heldArrayOut_c r (1) (by omega) (by omega) hypr, (lends_cons (lend_agg (all2_cons (la_int (by first | rfl | omega)) (all2_cons (la_int (by first | rfl | omega)) (all2_cons (la_loc rfl rfl rfl (by simp [mkL_length]) rfl) (all2_cons (la_int (by first | rfl | omega)) (all2_cons (la_int (by first | rfl | omega)) (all2_nil))))))) (lends_cons (lend_one (la_int (by first | rfl | omega))) (lends_nil))), ?_⟩; (conv => whnf)
  (first | (split <;> rename_i h <;> first | (exfalso; first | (simp at h; done) | (simp at h; omega) | (simp_all; done) | (simp_all; omega)) | (conv => whnf)) | skip)
  exact ⟨close_bool rfl, trivial⟩
end Go.Proofs.Ytlijeincckbdaaa
namespace Go.Proofs.Ytlijeincckbdaaa
open Go.RowKit
set_option linter.unusedSimpArgs false
set_option linter.unusedVariables false
theorem used_of_wt2 {x : DArray} (hw : x.wt ≤ 1048576) : ∀ d ∈ x.drives, usedN d.files ≤ 1000000000000 := fun d hd => by
  have h1 : x.wt = wL DDrive.wt x.drives := rfl
  have h2 := wL_mem (f := DDrive.wt) hd
  have h3 : d.wt = wL DStored.wt d.files := rfl
  have h4 := usedN_le d.files
  omega
theorem cnStored (l : List DStored) : cnL DStored.cnE l = 3 * l.length := by
  induction l with
  | nil => rfl
  | cons y l ih => simp only [cnL, List.map_cons, List.sum_cons, List.length_cons] at ih ⊢; rw [ih]; have : y.cnE = 3 := rfl; omega
theorem cnDrives {l : List DDrive} (h : ∀ d ∈ l, d.files.length ≤ 60) : cnL DDrive.cnE l ≤ 181 * l.length := by
  induction l with
  | nil => exact Nat.le_refl 0
  | cons y l ih =>
    have h1 := ih fun d hd => h d (by simp [hd])
    have h2 := h y (by simp)
    have h3 := cnStored y.files
    have h4 : y.cnE = cnL DStored.cnE y.files + 1 := rfl
    simp only [cnL, List.map_cons, List.sum_cons, List.length_cons] at h1 ⊢
    simp only [cnL] at h3 h4
    omega
theorem fnExactStepsDo_c (x0 : DArray) (h0 : x0.it) (x1 : List DStep) (h1 : x1.length ≤ 9223372036854775807 ∧ ∀ y ∈ x1, y.it) (x2 : Int) (h2 : inI x2) :
    Fun1 Try.prog 14 [.agg x0.enc, .one (.row true 5 (x1.map DStep.enc)), .one (.lit (.int .i64 x2))] (.one (.lit (.bool true))) := by
  refine lawStepsDo_c x0 h0 x1 h1 x2 h2 fun hw hw1 => ?_
  have hok := DArray.ok_of x0 h0 (by omega)
  have hok1 := okStepS_of x1 h1 (by omega)
  obtain ⟨k1, k2, k3⟩ := stepsDoF_ok hok hok1.2 x2
  refine ⟨stepsDoF x0 x1 x2, k1, ?_, stepsDoSpec_c x0 hok (used_of_wt2 hw) x1 hok1.2 hok1.1 x2 h2 _ rfl, stepsDoImpl_c x0 hok (used_of_wt2 hw) x1 hok1.2 hok1.1 x2 h2 _ rfl⟩
  have h3 := cnDrives k2
  have h4 : (stepsDoF x0 x1 x2).cnV = cnL DDrive.cnE (stepsDoF x0 x1 x2).array.drives := rfl
  omega
end Go.Proofs.Ytlijeincckbdaaa
