/- Contracts: DriveDo. -/
import Derived.Test.YtlijeincckbdaaaS15
namespace Go.Proofs.Ytlijeincckbdaaa
open Go.RowKit
set_option linter.unusedSimpArgs false
set_option linter.unusedVariables false
set_option maxRecDepth 100000
set_option maxHeartbeats 4000000
theorem driveDoImpl_c (x : DDrive) (hx : x.ok) (hu : usedN x.files ≤ 1000000000000) (o : DOp) (ho : o.ok) (res : DDriveOut) (hres : driveDoF x o = res) :
    Fun1 Try.prog 34 [.agg x.enc, .agg o.enc] (.agg res.enc) := by
  refine fun1_of_vc tb_ok mix (fn := Try.f34) Try.func34 rfl (by kernel_rfl) (by kernel_rfl) (by simp [Try.f34]) (by exact DDriveOut.enc_nb _) ?_
  (conv => whnf)
  refine ⟨_, _, driveImpl_c x hx hu, (by repeat' (first | exact lends_nil | exact lend_dead | apply lends_cons | apply lend_agg | apply lend_one | exact all2_nil | apply all2_cons | exact la_lit rfl | exact la_int (by first | rfl | omega) | exact la_row rfl rfl | exact la_loc rfl rfl rfl (by first | rfl | simp [mkL_length]) (by first | rfl | simp) | exact la_nil rfl | apply la_fn rfl | exact lend_same rfl rfl | exact lend_bor rfl rfl)), ?_⟩; (conv => whnf)
  (split <;> rename_i h1 <;> (try simp only [decide_eq_true_eq, decide_eq_false_iff_not, Bool.not_eq_true', Bool.not_eq_false', Bool.not_eq_true, Bool.not_eq_false, List.length_map] at h1) <;> conv => whnf)
  · have : res = ⟨noDrive, 1⟩ := by rw [← hres]; simp [driveDoF, h1]
    subst this
    exact ⟨close_nil rfl, close_int rfl, close_int rfl, trivial⟩
  refine ⟨_, _, opImpl_c o ho, (by repeat' (first | exact lends_nil | exact lend_dead | apply lends_cons | apply lend_agg | apply lend_one | exact all2_nil | apply all2_cons | exact la_lit rfl | exact la_int (by first | rfl | omega) | exact la_row rfl rfl | exact la_loc rfl rfl rfl (by first | rfl | simp [mkL_length]) (by first | rfl | simp) | exact la_nil rfl | apply la_fn rfl | exact lend_same rfl rfl | exact lend_bor rfl rfl)), ?_⟩; (conv => whnf)
  (split <;> rename_i h2 <;> (try simp only [decide_eq_true_eq, decide_eq_false_iff_not, Bool.not_eq_true', Bool.not_eq_false', Bool.not_eq_true, Bool.not_eq_false, List.length_map] at h2) <;> conv => whnf)
  · have : res = ⟨noDrive, 1⟩ := by rw [← hres]; simp [driveDoF, h1, h2]
    subst this
    exact ⟨close_nil rfl, close_int rfl, close_int rfl, trivial⟩
  have hd : doF x o = res := by rw [← hres]; simp [driveDoF, h1, h2]
  refine ⟨_, _, done_c x hx h1 o ho h2 res hd, (by repeat' (first | exact lends_nil | exact lend_dead | apply lends_cons | apply lend_agg | apply lend_one | exact all2_nil | apply all2_cons | exact la_lit rfl | exact la_int (by first | rfl | omega) | exact la_row rfl rfl | exact la_loc rfl rfl rfl (by first | rfl | simp [mkL_length]) (by first | rfl | simp) | exact la_nil rfl | apply la_fn rfl | exact lend_same rfl rfl | exact lend_bor rfl rfl)), ?_⟩; (conv => whnf)
  exact (by repeat' (first | exact trivial | exact close_int rfl | exact close_str rfl | exact close_bool rfl | exact close_int (by omega) | exact close_row rfl rfl (by first | rfl | simp) (by first | rfl | simp) | exact close_nil (by first | rfl | simp) | exact rfl | apply And.intro | apply closeTs_cons rfl))
end Go.Proofs.Ytlijeincckbdaaa
