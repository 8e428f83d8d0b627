/- DriveDo: the program and the reference hand back the same, so the law returns true. -/
import Derived.Test.YtlijeincckbdaaaQg
import Derived.Test.YtlijeincckbdaaaQl
namespace Go.Proofs.Ytlijeincckbdaaa
open Go.RowKit
set_option linter.unusedSimpArgs false
set_option linter.unusedVariables false
set_option maxRecDepth 100000
theorem lawDriveDo_c (x0 : DDrive) (hi0 : x0.it) (x1 : DOp) (hi1 : x1.it)
    (H : x0.wt ≤ 1048576 → x1.wt ≤ 1048576 → ∃ r : DDriveOut, (r.ok) ∧ (r.cnV ≤ 2305843009213693952) ∧ (Fun1 Try.prog 35 [.agg x0.enc, .agg x1.enc] (.agg r.enc)) ∧ (Fun1 Try.prog 34 [.agg x0.enc, .agg x1.enc] (.agg r.enc))) :
    Fun1 Try.prog 9 [.agg x0.enc, .agg x1.enc] (.one (.lit (.bool true))) := by
  refine law_of_vc tb_ok mix (fn := Try.f9) Try.func9 rfl (by kernel_rfl) (by kernel_rfl) (by simp [Try.f9]) rfl rfl fun u => ?_
  (conv => whnf)
  have hs1 := szF_or (x0.wt) (1048576)
  refine ⟨_, _, szDrive_c x0 (1048576) hi0 (by omega) (by omega), (lends_cons (lend_agg (all2_cons (la_par 0 rfl) (all2_cons (la_int (by first | rfl | omega)) (all2_nil)))) (lends_cons (lend_one (la_int (by first | rfl | omega))) (lends_nil))), ?_⟩; (conv => whnf)
  (split <;> rename_i h <;> (try simp only [decide_eq_true_eq, decide_eq_false_iff_not, Bool.not_eq_true', Bool.not_eq_false', Bool.not_eq_true, Bool.not_eq_false, List.length_map] at h) <;> conv => whnf)
  · exact ⟨close_bool rfl, trivial⟩
  have hs2 := szF_or (x1.wt) (szF (x0.wt) (1048576))
  refine ⟨_, _, szOp_c x1 (szF (x0.wt) (1048576)) hi1 (by omega) (by omega), (lends_cons (lend_agg (all2_cons (la_int (by first | rfl | omega)) (all2_cons (la_lit rfl) (all2_cons (la_lit rfl) (all2_cons (la_lit rfl) (all2_nil)))))) (lends_cons (lend_one (la_int (by first | rfl | omega))) (lends_nil))), ?_⟩; (conv => whnf)
  (split <;> rename_i h <;> (try simp only [decide_eq_true_eq, decide_eq_false_iff_not, Bool.not_eq_true', Bool.not_eq_false', Bool.not_eq_true, Bool.not_eq_false, List.length_map] at h) <;> conv => whnf)
  · exact ⟨close_bool rfl, trivial⟩
  have hw0 : x0.wt ≤ 1048576 := by omega
  have hw1 : x1.wt ≤ 1048576 := by omega
  obtain ⟨r, hrok, hrcn, hspec, himpl⟩ := H hw0 hw1
  have hok0 := DDrive.ok_of x0 hi0 (by omega)
  have hyp0 := DDrive.hyp_of x0 hok0
  have hcn0 := DDrive.cnV_le x0
  have hok1 := DOp.ok_of x1 hi1 (by omega)
  have hypr := DDriveOut.hyp_of r hrok
  refine ⟨_, _, toDrive_c x0 (by omega), (lends_cons (lend_agg (all2_cons (la_par 0 rfl) (all2_cons (la_int (by first | rfl | omega)) (all2_nil)))) (lends_nil)), ?_⟩; (conv => whnf)
  refine ⟨_, _, toOp_c x1 (by omega), (lends_cons (lend_agg (all2_cons (la_int (by first | rfl | omega)) (all2_cons (la_lit rfl) (all2_cons (la_lit rfl) (all2_cons (la_lit rfl) (all2_nil)))))) (lends_nil)), ?_⟩; (conv => whnf)
  refine ⟨_, _, hspec, (lends_cons (lend_agg (all2_cons (la_loc rfl rfl rfl rfl rfl) (all2_cons (la_int (by first | rfl | omega)) (all2_nil)))) (lends_cons (lend_agg (all2_cons (la_int (by first | rfl | omega)) (all2_cons (la_lit rfl) (all2_cons (la_lit rfl) (all2_cons (la_lit rfl) (all2_nil)))))) (lends_nil))), ?_⟩; (conv => whnf)
  refine ⟨_, _, toDrive_c x0 (by omega), (lends_cons (lend_agg (all2_cons (la_par 0 rfl) (all2_cons (la_int (by first | rfl | omega)) (all2_nil)))) (lends_nil)), ?_⟩; (conv => whnf)
  refine ⟨_, _, toOp_c x1 (by omega), (lends_cons (lend_agg (all2_cons (la_int (by first | rfl | omega)) (all2_cons (la_lit rfl) (all2_cons (la_lit rfl) (all2_cons (la_lit rfl) (all2_nil)))))) (lends_nil)), ?_⟩; (conv => whnf)
  refine ⟨_, _, himpl, (lends_cons (lend_agg (all2_cons (la_loc rfl rfl rfl rfl rfl) (all2_cons (la_int (by first | rfl | omega)) (all2_nil)))) (lends_cons (lend_agg (all2_cons (la_int (by first | rfl | omega)) (all2_cons (la_lit rfl) (all2_cons (la_lit rfl) (all2_cons (la_lit rfl) (all2_nil)))))) (lends_nil))), ?_⟩; (conv => whnf)
  refine ⟨_, _, eqDriveOut_c r hrok, (lends_cons (lend_agg (all2_cons (la_loc rfl rfl rfl rfl rfl) (all2_cons (la_int (by first | rfl | omega)) (all2_cons (la_int (by first | rfl | omega)) (all2_nil))))) (lends_cons (lend_agg (all2_cons (la_loc rfl rfl rfl rfl rfl) (all2_cons (la_int (by first | rfl | omega)) (all2_cons (la_int (by first | rfl | omega)) (all2_nil))))) (lends_nil))), ?_⟩; (conv => whnf)
  refine ⟨_, _, toDrive_c x0 (by omega), (lends_cons (lend_agg (all2_cons (la_par 0 rfl) (all2_cons (la_int (by first | rfl | omega)) (all2_nil)))) (lends_nil)), ?_⟩; (conv => whnf)
  refine ⟨_, _, eqDrive_c x0 hok0, (lends_cons (lend_agg (all2_cons (la_loc rfl rfl rfl rfl rfl) (all2_cons (la_int (by first | rfl | omega)) (all2_nil)))) (lends_cons (lend_agg (all2_cons (la_loc rfl rfl rfl rfl rfl) (all2_cons (la_int (by first | rfl | omega)) (all2_nil)))) (lends_nil))), ?_⟩; (conv => whnf)
  refine ⟨[(2, .one (.ptr 32 0)), (3, .one (.ptr 48 0)), (6, .one (.ptr 96 0)), (8, .one (.ptr 128 0)), (43, .agg [.loc 464 0 (x0.files.map DStored.enc).length, .lit (.int .i64 x0.room)]), (44, .one (.lit (.int .i64 ((1 : Nat) : Int))))], [(0, .par (u 0) (.row true 3 (x0.files.map DStored.enc))), (32, .var [.lit (u 0), .lit (.int .i64 x0.room)]), (48, .var [.lit (.int .i64 x1.kind), .lit (.string x1.name), .lit (.string x1.to), .lit (.string x1.text)]), (96, .var [.loc 432 0 (r.drive.files.map DStored.enc).length, .lit (.int .i64 r.drive.room), .lit (.int .i64 r.code)]), (128, .var [.loc 528 0 (r.drive.files.map DStored.enc).length, .lit (.int .i64 r.drive.room), .lit (.int .i64 r.code)]), (432, .row true 3 (r.drive.files.map DStored.enc)), (464, .row true 3 (x0.files.map DStored.enc)), (528, .row true 3 (r.drive.files.map DStored.enc))], weak_of (all_cons rfl (all_cons rfl (all_cons rfl (all_cons rfl (all_cons rfl (all_cons rfl all_nil)))))) (all_cons rfl (all_cons rfl (all_cons rfl (all_cons rfl (all_cons rfl (all_cons rfl (all_cons rfl (all_cons rfl all_nil)))))))) rfl rfl, _, _, _, _, [464], markDrive_c x0 (1) (by omega) (by omega) hyp0, (rens_cons (ren_agg (by repeat' (first | exact all2_nil | apply all2_cons | exact ren_lit rfl | exact ren_loc rfl rfl | exact ren_loc rfl (by simp)))) (rens_cons (ren_one (ren_int (by first | rfl | omega))) rens_nil)), (hasRows_cons rfl hasRows_nil), (by decide), rfl, (sfm_cons rfl (sfm_cons rfl (sfm_cons rfl (sfm_cons rfl (sfm_cons rfl (sfm_cons (sf_row (nbRow_map (fun y => DStored.enc_nb y) _)) (sfm_cons (sf_row (nbRow_map (fun y => DStored.enc_nb y) _)) (sfm_cons (sf_row (nbRow_map (fun y => DStored.enc_nb y) _)) sfm_nil)))))))), rfl, ?_⟩; (conv => whnf)
  refine ⟨_, _, eqDriveOut_c r hrok, (lends_cons (lend_agg (all2_cons (la_loc rfl rfl rfl rfl rfl) (all2_cons (la_int (by first | rfl | omega)) (all2_cons (la_int (by first | rfl | omega)) (all2_nil))))) (lends_cons (lend_agg (all2_cons (la_loc rfl rfl rfl rfl rfl) (all2_cons (la_int (by first | rfl | omega)) (all2_cons (la_int (by first | rfl | omega)) (all2_nil))))) (lends_nil))), ?_⟩; (conv => whnf)
  refine ⟨[(2, .one (.ptr 32 0)), (3, .one (.ptr 48 0)), (6, .one (.ptr 96 0)), (8, .one (.ptr 128 0)), (54, .agg [.loc 528 0 (r.drive.files.map DStored.enc).length, .lit (.int .i64 r.drive.room), .lit (.int .i64 r.code)]), (55, .one (.lit (.int .i64 ((1 : Nat) : Int))))], [(0, .par (u 0) (.row true 3 (x0.files.map DStored.enc))), (32, .var [.lit (u 0), .lit (.int .i64 x0.room)]), (48, .var [.lit (.int .i64 x1.kind), .lit (.string x1.name), .lit (.string x1.to), .lit (.string x1.text)]), (96, .var [.loc 432 0 (r.drive.files.map DStored.enc).length, .lit (.int .i64 r.drive.room), .lit (.int .i64 r.code)]), (128, .var [.loc 528 0 (r.drive.files.map DStored.enc).length, .lit (.int .i64 r.drive.room), .lit (.int .i64 r.code)]), (432, .row true 3 (r.drive.files.map DStored.enc)), (528, .row true 3 (r.drive.files.map DStored.enc))], weak_of (all_cons rfl (all_cons rfl (all_cons rfl (all_cons rfl (all_cons rfl (all_cons rfl all_nil)))))) (all_cons rfl (all_cons rfl (all_cons rfl (all_cons rfl (all_cons rfl (all_cons rfl (all_cons rfl all_nil))))))) rfl rfl, _, _, _, _, [528], markDriveOut_c r (1) (by omega) (by omega) hypr, (rens_cons (ren_agg (by repeat' (first | exact all2_nil | apply all2_cons | exact ren_lit rfl | exact ren_loc rfl rfl | exact ren_loc rfl (by simp)))) (rens_cons (ren_one (ren_int (by first | rfl | omega))) rens_nil)), (hasRows_cons rfl hasRows_nil), (by decide), rfl, (sfm_cons rfl (sfm_cons rfl (sfm_cons rfl (sfm_cons rfl (sfm_cons rfl (sfm_cons (sf_row (nbRow_map (fun y => DStored.enc_nb y) _)) (sfm_cons (sf_row (nbRow_map (fun y => DStored.enc_nb y) _)) sfm_nil))))))), rfl, ?_⟩; (conv => whnf)
  refine ⟨_, _, heldDriveOut_c r (1) (by omega) (by omega) hypr, (lends_cons (lend_agg (all2_cons (la_loc rfl rfl rfl (by simp [mkL_length]) rfl) (all2_cons (la_int (by first | rfl | omega)) (all2_cons (la_int (by first | rfl | omega)) (all2_nil))))) (lends_cons (lend_one (la_int (by first | rfl | omega))) (lends_nil))), ?_⟩; (conv => whnf)
  (first | (split <;> rename_i h <;> first | (exfalso; first | (simp at h; done) | (simp at h; omega) | (simp_all; done) | (simp_all; omega)) | (conv => whnf)) | skip)
  refine ⟨_, _, toDrive_c x0 (by omega), (lends_cons (lend_agg (all2_cons (la_par 0 rfl) (all2_cons (la_int (by first | rfl | omega)) (all2_nil)))) (lends_nil)), ?_⟩; (conv => whnf)
  refine ⟨_, _, toOp_c x1 (by omega), (lends_cons (lend_agg (all2_cons (la_int (by first | rfl | omega)) (all2_cons (la_lit rfl) (all2_cons (la_lit rfl) (all2_cons (la_lit rfl) (all2_nil)))))) (lends_nil)), ?_⟩; (conv => whnf)
  refine ⟨_, _, himpl, (lends_cons (lend_agg (all2_cons (la_loc rfl rfl rfl rfl rfl) (all2_cons (la_int (by first | rfl | omega)) (all2_nil)))) (lends_cons (lend_agg (all2_cons (la_int (by first | rfl | omega)) (all2_cons (la_lit rfl) (all2_cons (la_lit rfl) (all2_cons (la_lit rfl) (all2_nil)))))) (lends_nil))), ?_⟩; (conv => whnf)
  refine ⟨_, _, eqDriveOut_c r hrok, (lends_cons (lend_agg (all2_cons (la_loc rfl rfl rfl rfl rfl) (all2_cons (la_int (by first | rfl | omega)) (all2_cons (la_int (by first | rfl | omega)) (all2_nil))))) (lends_cons (lend_agg (all2_cons (la_loc rfl rfl rfl rfl rfl) (all2_cons (la_int (by first | rfl | omega)) (all2_cons (la_int (by first | rfl | omega)) (all2_nil))))) (lends_nil))), ?_⟩; (conv => whnf)
  refine ⟨_, _, heldDriveOut_c r (1) (by omega) (by omega) hypr, (lends_cons (lend_agg (all2_cons (la_loc rfl rfl rfl (by simp [mkL_length]) rfl) (all2_cons (la_int (by first | rfl | omega)) (all2_cons (la_int (by first | rfl | omega)) (all2_nil))))) (lends_cons (lend_one (la_int (by first | rfl | omega))) (lends_nil))), ?_⟩; (conv => whnf)
  (first | (split <;> rename_i h <;> first | (exfalso; first | (simp at h; done) | (simp at h; omega) | (simp_all; done) | (simp_all; omega)) | (conv => whnf)) | skip)
  exact ⟨close_bool rfl, trivial⟩
end Go.Proofs.Ytlijeincckbdaaa
namespace Go.Proofs.Ytlijeincckbdaaa
open Go.RowKit
set_option linter.unusedSimpArgs false
set_option linter.unusedVariables false
theorem fnExactDriveDo_c (x0 : DDrive) (h0 : x0.it) (x1 : DOp) (h1 : x1.it) :
    Fun1 Try.prog 9 [.agg x0.enc, .agg x1.enc] (.one (.lit (.bool true))) := by
  refine lawDriveDo_c x0 h0 x1 h1 fun hw hw1 => ?_
  have hok := DDrive.ok_of x0 h0 (by omega)
  have hok1 := DOp.ok_of x1 h1 (by omega)
  have hu : usedN x0.files ≤ 1000000000000 := by
    have h1 := usedN_le x0.files
    have h2 : x0.wt = wL DStored.wt x0.files := rfl
    omega
  obtain ⟨hrok, hrl⟩ := driveDoF_ok x0 hok x1 hok1
  refine ⟨driveDoF x0 x1, hrok, ?_, driveDoSpec_c x0 hok hu x1 hok1 _ rfl, driveDoImpl_c x0 hok hu x1 hok1 _ rfl⟩
  have hc : ∀ l : List DStored, cnL DStored.cnE l = 3 * l.length := by
    intro l
    induction l with
    | nil => rfl
    | cons y l ih => simp only [cnL, List.map_cons, List.sum_cons, List.length_cons] at ih ⊢; rw [ih]; have : y.cnE = 3 := rfl; omega
  have : (driveDoF x0 x1).cnV = cnL DStored.cnE (driveDoF x0 x1).drive.files := rfl
  rw [this, hc]
  omega
end Go.Proofs.Ytlijeincckbdaaa
