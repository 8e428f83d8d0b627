/- The law FnExactLocked: whatever the two sides hand back alike, it returns true. -/
import Derived.Test.YtlijeincckbdaaaGm
namespace Go.Proofs.Ytlijeincckbdaaa
open Go.RowKit
set_option linter.unusedSimpArgs false
set_option linter.unusedVariables false
set_option maxRecDepth 100000
theorem lawLocked_c (x0 : DWorld) (hi0 : x0.it) (x1 : Int) (hi1 : inI x1) (x2 : Int) (hi2 : inI x2)
    (H : x0.wt ≤ 1048576 → ∃ r : Bool, (Fun1 Try.prog 53 [.agg x0.enc, .one (.lit (.int .i64 x1)), .one (.lit (.int .i64 x2))] (.one (.lit (.bool r)))) ∧ (Fun1 Try.prog 54 [.agg x0.enc, .one (.lit (.int .i64 x1)), .one (.lit (.int .i64 x2))] (.one (.lit (.bool r))))) :
    Fun1 Try.prog 10 [.agg x0.enc, .one (.lit (.int .i64 x1)), .one (.lit (.int .i64 x2))] (.one (.lit (.bool true))) := by
  refine law_of_vc tb_ok mix (fn := Try.f10) Try.func10 rfl (by kernel_rfl) (by kernel_rfl) (by simp [Try.f10]) rfl rfl fun u => ?_
  (conv => whnf)
  have hs1 := szF_or (x0.wt) (1048576)
  refine ⟨_, _, szWorld_c x0 (1048576) hi0 (by omega) (by omega), (lends_cons (lend_agg (all2_cons (la_int (by first | rfl | omega)) (all2_cons (la_int (by first | rfl | omega)) (all2_cons (la_par 2 rfl) (all2_cons (la_int (by first | rfl | omega)) (all2_cons (la_int (by first | rfl | omega)) (all2_cons (la_int (by first | rfl | omega)) (all2_cons (la_int (by first | rfl | omega)) (all2_cons (la_par 7 rfl) (all2_nil)))))))))) (lends_cons (lend_one (la_int (by first | rfl | omega))) (lends_nil))), ?_⟩; (conv => whnf)
  (split <;> rename_i h <;> (try simp only [decide_eq_true_eq, decide_eq_false_iff_not, Bool.not_eq_true', Bool.not_eq_false'] at h) <;> conv => whnf)
  · exact ⟨close_bool rfl, trivial⟩
  have hw0 : x0.wt ≤ 1048576 := by omega
  obtain ⟨r, hspec, himpl⟩ := H hw0
  have hok0 := DWorld.ok_of x0 hi0 (by omega)
  have hyp0 := DWorld.hyp_of x0 hok0
  have hcn0 := DWorld.cnV_le x0
  refine ⟨_, _, toWorld_c x0 (by omega), (lends_cons (lend_agg (all2_cons (la_int (by first | rfl | omega)) (all2_cons (la_int (by first | rfl | omega)) (all2_cons (la_par 2 rfl) (all2_cons (la_int (by first | rfl | omega)) (all2_cons (la_int (by first | rfl | omega)) (all2_cons (la_int (by first | rfl | omega)) (all2_cons (la_int (by first | rfl | omega)) (all2_cons (la_par 7 rfl) (all2_nil)))))))))) (lends_nil)), ?_⟩; (conv => whnf)
  refine ⟨_, _, hspec, (lends_cons (lend_agg (all2_cons (la_int (by first | rfl | omega)) (all2_cons (la_int (by first | rfl | omega)) (all2_cons (la_loc rfl rfl rfl rfl rfl) (all2_cons (la_int (by first | rfl | omega)) (all2_cons (la_int (by first | rfl | omega)) (all2_cons (la_int (by first | rfl | omega)) (all2_cons (la_int (by first | rfl | omega)) (all2_cons (la_loc rfl rfl rfl rfl rfl) (all2_nil)))))))))) (lends_cons (lend_one (la_int (by first | rfl | omega))) (lends_cons (lend_one (la_int (by first | rfl | omega))) (lends_nil)))), ?_⟩; (conv => whnf)
  refine ⟨_, _, toWorld_c x0 (by omega), (lends_cons (lend_agg (all2_cons (la_int (by first | rfl | omega)) (all2_cons (la_int (by first | rfl | omega)) (all2_cons (la_par 2 rfl) (all2_cons (la_int (by first | rfl | omega)) (all2_cons (la_int (by first | rfl | omega)) (all2_cons (la_int (by first | rfl | omega)) (all2_cons (la_int (by first | rfl | omega)) (all2_cons (la_par 7 rfl) (all2_nil)))))))))) (lends_nil)), ?_⟩; (conv => whnf)
  refine ⟨_, _, himpl, (lends_cons (lend_agg (all2_cons (la_int (by first | rfl | omega)) (all2_cons (la_int (by first | rfl | omega)) (all2_cons (la_loc rfl rfl rfl rfl rfl) (all2_cons (la_int (by first | rfl | omega)) (all2_cons (la_int (by first | rfl | omega)) (all2_cons (la_int (by first | rfl | omega)) (all2_cons (la_int (by first | rfl | omega)) (all2_cons (la_loc rfl rfl rfl rfl rfl) (all2_nil)))))))))) (lends_cons (lend_one (la_int (by first | rfl | omega))) (lends_cons (lend_one (la_int (by first | rfl | omega))) (lends_nil)))), ?_⟩; (conv => whnf)
  (first | (split <;> rename_i h <;> first | (exfalso; first | (simp at h; done) | (simp at h; omega) | (simp_all; done) | (simp_all; omega)) | (conv => whnf)) | skip)
  refine ⟨_, _, toWorld_c x0 (by omega), (lends_cons (lend_agg (all2_cons (la_int (by first | rfl | omega)) (all2_cons (la_int (by first | rfl | omega)) (all2_cons (la_par 2 rfl) (all2_cons (la_int (by first | rfl | omega)) (all2_cons (la_int (by first | rfl | omega)) (all2_cons (la_int (by first | rfl | omega)) (all2_cons (la_int (by first | rfl | omega)) (all2_cons (la_par 7 rfl) (all2_nil)))))))))) (lends_nil)), ?_⟩; (conv => whnf)
  refine ⟨_, _, eqWorld_c x0 hok0, (lends_cons (lend_agg (all2_cons (la_int (by first | rfl | omega)) (all2_cons (la_int (by first | rfl | omega)) (all2_cons (la_loc rfl rfl rfl rfl rfl) (all2_cons (la_int (by first | rfl | omega)) (all2_cons (la_int (by first | rfl | omega)) (all2_cons (la_int (by first | rfl | omega)) (all2_cons (la_int (by first | rfl | omega)) (all2_cons (la_loc rfl rfl rfl rfl rfl) (all2_nil)))))))))) (lends_cons (lend_agg (all2_cons (la_int (by first | rfl | omega)) (all2_cons (la_int (by first | rfl | omega)) (all2_cons (la_loc rfl rfl rfl rfl rfl) (all2_cons (la_int (by first | rfl | omega)) (all2_cons (la_int (by first | rfl | omega)) (all2_cons (la_int (by first | rfl | omega)) (all2_cons (la_int (by first | rfl | omega)) (all2_cons (la_loc rfl rfl rfl rfl rfl) (all2_nil)))))))))) (lends_nil))), ?_⟩; (conv => whnf)
  exact ⟨close_bool rfl, trivial⟩
end Go.Proofs.Ytlijeincckbdaaa
