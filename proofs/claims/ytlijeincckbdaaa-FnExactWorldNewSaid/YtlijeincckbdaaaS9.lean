/- Contracts: clients at work, right worlds, locks. -/
import Derived.Test.YtlijeincckbdaaaS8
namespace Go.Proofs.Ytlijeincckbdaaa
open Go.RowKit
set_option linter.unusedSimpArgs false
set_option linter.unusedVariables false
set_option maxRecDepth 100000
set_option maxHeartbeats 8000000
theorem atWorkImpl_c (c : DClient) (hc : c.ok) (n : Int) (hn : 0 ≤ n ∧ n ≤ 4294967296) : Fun1 Try.prog 138 [.agg c.enc, .one (.lit (.int .i64 n))] (.one (.lit (.bool (atWork n c)))) := by
  obtain ⟨hcmd, hnm, ⟨hsl, hso⟩, hat, hun⟩ := hc
  refine fun1_of_vc tb_ok mix (fn := Try.f138) Try.func138 rfl (by kernel_rfl) (by kernel_rfl) (by simp [Try.f138]) (by rfl) ?_
  (conv => whnf)
  (split <;> rename_i h1 <;> (try simp only [decide_eq_true_eq, decide_eq_false_iff_not, Bool.not_eq_true', Bool.not_eq_false', Bool.not_eq_true, Bool.not_eq_false, List.length_map] at h1) <;> conv => whnf)
  · have hna : named c = true := by simp [named, h1]
    refine ⟨_, _, isCmd_c c.cmd, (by repeat' (first | exact lends_nil | exact lend_dead | apply lends_cons | apply lend_agg | apply lend_one | exact all2_nil | apply all2_cons | exact la_lit rfl | exact la_int (by first | rfl | omega) | exact la_row rfl rfl | exact la_loc rfl rfl rfl (by first | rfl | simp [mkL_length]) (by first | rfl | simp) | exact la_nil rfl | apply la_fn rfl | exact lend_same rfl rfl | exact lend_bor rfl rfl)), ?_⟩; (conv => whnf)
    (split <;> rename_i h2 <;> (try simp only [decide_eq_true_eq, decide_eq_false_iff_not, Bool.not_eq_true', Bool.not_eq_false', Bool.not_eq_true, Bool.not_eq_false, List.length_map] at h2) <;> conv => whnf)
    case h_2 => exact ⟨close_bool (by simp only [atWork, h2, Bool.false_and]), trivial⟩
    refine ⟨_, _, snapName_c c.name hnm, (by repeat' (first | exact lends_nil | exact lend_dead | apply lends_cons | apply lend_agg | apply lend_one | exact all2_nil | apply all2_cons | exact la_lit rfl | exact la_int (by first | rfl | omega) | exact la_row rfl rfl | exact la_loc rfl rfl rfl (by first | rfl | simp [mkL_length]) (by first | rfl | simp) | exact la_nil rfl | apply la_fn rfl | exact lend_same rfl rfl | exact lend_bor rfl rfl)), ?_⟩; (conv => whnf)
    (split <;> rename_i h3 <;> (try simp only [decide_eq_true_eq, decide_eq_false_iff_not, Bool.not_eq_true', Bool.not_eq_false', Bool.not_eq_true, Bool.not_eq_false, List.length_map] at h3) <;> conv => whnf)
    case h_2 =>
      (first | (split <;> rename_i h9 <;> first | (exfalso; first | (simp at h9; done) | (simp at h9; omega) | (simp_all; done) | (simp_all; omega)) | (conv => whnf)) | skip)
      exact ⟨close_bool (by simp only [atWork, hna, h2, h3, Bool.true_and, Bool.false_and, Bool.not_true, Bool.or_self]), trivial⟩
    have hx : (wi c.cmd 1 4 && ((named c && nameOk c.name 20) || (!named c && decide (c.name = ⟨#[]⟩)))) = true := by simp only [hna, h2, h3, Bool.true_and, Bool.true_or]
    refine ⟨_, _, sizeStep_c c.steps, (by repeat' (first | exact lends_nil | exact lend_dead | apply lends_cons | apply lend_agg | apply lend_one | exact all2_nil | apply all2_cons | exact la_lit rfl | exact la_int (by first | rfl | omega) | exact la_row rfl rfl | exact la_loc rfl rfl rfl (by first | rfl | simp [mkL_length]) (by first | rfl | simp) | exact la_nil rfl | apply la_fn rfl | exact lend_same rfl rfl | exact lend_bor rfl rfl)), ?_⟩; (conv => whnf)
    refine ⟨_, _, within_w c.steps.length 1 400, (by repeat' (first | exact lends_nil | exact lend_dead | apply lends_cons | apply lend_agg | apply lend_one | exact all2_nil | apply all2_cons | exact la_lit rfl | exact la_int (by first | rfl | omega) | exact la_row rfl rfl | exact la_loc rfl rfl rfl (by first | rfl | simp [mkL_length]) (by first | rfl | simp) | exact la_nil rfl | apply la_fn rfl | exact lend_same rfl rfl | exact lend_bor rfl rfl)), ?_⟩; (conv => whnf)
    (split <;> rename_i h5 <;> (try simp only [decide_eq_true_eq, decide_eq_false_iff_not, Bool.not_eq_true', Bool.not_eq_false', Bool.not_eq_true, Bool.not_eq_false, List.length_map] at h5) <;> conv => whnf)
    case h_2 => exact ⟨close_bool (by simp only [atWork, hx, h5, Bool.true_and, Bool.false_and]), trivial⟩
    refine ⟨_, _, containsStep_c c.steps 202 [.lit (.int .i64 n)] rfl (fun s => !wi s.drive 0 (n - 1)) hsl (fun s _ => atWork1_c s n hn), lends_cons (lend_one (la_row rfl rfl)) (lends_cons (lend_one (la_fn rfl (all2_cons (la_ptr rfl rfl rfl (all2_cons (la_lit rfl) all2_nil)) all2_nil))) lends_nil), ?_⟩; (conv => whnf)
    have hany : (!c.steps.any fun s => !wi s.drive 0 (n - 1)) = stepsOk n c.steps := any_nots
    (split <;> rename_i h6 <;> (try simp only [decide_eq_true_eq, decide_eq_false_iff_not, Bool.not_eq_true', Bool.not_eq_false', Bool.not_eq_true, Bool.not_eq_false, List.length_map] at h6) <;> conv => whnf)
    case h_2 =>
      rw [h6] at hany
      exact ⟨close_bool (by simp only [atWork, hx, h5, ← hany, Bool.true_and, Bool.false_and, Bool.not_true]), trivial⟩
    rw [h6] at hany
    replace h6 : stepsOk n c.steps = true := hany.symm
    refine ⟨_, _, sizeStep_c c.steps, (by repeat' (first | exact lends_nil | exact lend_dead | apply lends_cons | apply lend_agg | apply lend_one | exact all2_nil | apply all2_cons | exact la_lit rfl | exact la_int (by first | rfl | omega) | exact la_row rfl rfl | exact la_loc rfl rfl rfl (by first | rfl | simp [mkL_length]) (by first | rfl | simp) | exact la_nil rfl | apply la_fn rfl | exact lend_same rfl rfl | exact lend_bor rfl rfl)), ?_⟩; (conv => whnf)
    refine ⟨(c.steps.length : Int) - 1, wrap64_id (by omega) (by omega), ?_⟩; (conv => whnf)
    refine ⟨_, _, within_w c.at_ 0 ((c.steps.length : Int) - 1), (by repeat' (first | exact lends_nil | exact lend_dead | apply lends_cons | apply lend_agg | apply lend_one | exact all2_nil | apply all2_cons | exact la_lit rfl | exact la_int (by first | rfl | omega) | exact la_row rfl rfl | exact la_loc rfl rfl rfl (by first | rfl | simp [mkL_length]) (by first | rfl | simp) | exact la_nil rfl | apply la_fn rfl | exact lend_same rfl rfl | exact lend_bor rfl rfl)), ?_⟩; (conv => whnf)
    (split <;> rename_i h7 <;> (try simp only [decide_eq_true_eq, decide_eq_false_iff_not, Bool.not_eq_true', Bool.not_eq_false', Bool.not_eq_true, Bool.not_eq_false, List.length_map] at h7) <;> conv => whnf)
    case h_2 => exact ⟨close_bool (by simp only [atWork, hx, h5, h6, h7, Bool.true_and, Bool.false_and]), trivial⟩
    refine ⟨_, _, within_w c.until_ 0 2000000000, (by repeat' (first | exact lends_nil | exact lend_dead | apply lends_cons | apply lend_agg | apply lend_one | exact all2_nil | apply all2_cons | exact la_lit rfl | exact la_int (by first | rfl | omega) | exact la_row rfl rfl | exact la_loc rfl rfl rfl (by first | rfl | simp [mkL_length]) (by first | rfl | simp) | exact la_nil rfl | apply la_fn rfl | exact lend_same rfl rfl | exact lend_bor rfl rfl)), ?_⟩; (conv => whnf)
    exact ⟨close_bool (by simp only [atWork, hx, h5, h6, h7, Bool.true_and]), trivial⟩
  · refine ⟨_, _, isCmd_c c.cmd, (by repeat' (first | exact lends_nil | exact lend_dead | apply lends_cons | apply lend_agg | apply lend_one | exact all2_nil | apply all2_cons | exact la_lit rfl | exact la_int (by first | rfl | omega) | exact la_row rfl rfl | exact la_loc rfl rfl rfl (by first | rfl | simp [mkL_length]) (by first | rfl | simp) | exact la_nil rfl | apply la_fn rfl | exact lend_same rfl rfl | exact lend_bor rfl rfl)), ?_⟩; (conv => whnf)
    (split <;> rename_i h2 <;> (try simp only [decide_eq_true_eq, decide_eq_false_iff_not, Bool.not_eq_true', Bool.not_eq_false', Bool.not_eq_true, Bool.not_eq_false, List.length_map] at h2) <;> conv => whnf)
    case h_2 => exact ⟨close_bool (by simp only [atWork, h2, Bool.false_and]), trivial⟩
    (split <;> rename_i h8 <;> (try simp only [decide_eq_true_eq, decide_eq_false_iff_not, Bool.not_eq_true', Bool.not_eq_false', Bool.not_eq_true, Bool.not_eq_false, List.length_map] at h8) <;> conv => whnf)
    · have hna : named c = true := by simp [named, h8]
      refine ⟨_, _, snapName_c c.name hnm, (by repeat' (first | exact lends_nil | exact lend_dead | apply lends_cons | apply lend_agg | apply lend_one | exact all2_nil | apply all2_cons | exact la_lit rfl | exact la_int (by first | rfl | omega) | exact la_row rfl rfl | exact la_loc rfl rfl rfl (by first | rfl | simp [mkL_length]) (by first | rfl | simp) | exact la_nil rfl | apply la_fn rfl | exact lend_same rfl rfl | exact lend_bor rfl rfl)), ?_⟩; (conv => whnf)
      (split <;> rename_i h3 <;> (try simp only [decide_eq_true_eq, decide_eq_false_iff_not, Bool.not_eq_true', Bool.not_eq_false', Bool.not_eq_true, Bool.not_eq_false, List.length_map] at h3) <;> conv => whnf)
      case h_2 =>
        (first | (split <;> rename_i h9 <;> first | (exfalso; first | (simp at h9; done) | (simp at h9; omega) | (simp_all; done) | (simp_all; omega)) | (conv => whnf)) | skip)
        exact ⟨close_bool (by simp only [atWork, hna, h2, h3, Bool.true_and, Bool.false_and, Bool.not_true, Bool.or_self]), trivial⟩
      have hx : (wi c.cmd 1 4 && ((named c && nameOk c.name 20) || (!named c && decide (c.name = ⟨#[]⟩)))) = true := by simp only [hna, h2, h3, Bool.true_and, Bool.true_or]
      refine ⟨_, _, sizeStep_c c.steps, (by repeat' (first | exact lends_nil | exact lend_dead | apply lends_cons | apply lend_agg | apply lend_one | exact all2_nil | apply all2_cons | exact la_lit rfl | exact la_int (by first | rfl | omega) | exact la_row rfl rfl | exact la_loc rfl rfl rfl (by first | rfl | simp [mkL_length]) (by first | rfl | simp) | exact la_nil rfl | apply la_fn rfl | exact lend_same rfl rfl | exact lend_bor rfl rfl)), ?_⟩; (conv => whnf)
      refine ⟨_, _, within_w c.steps.length 1 400, (by repeat' (first | exact lends_nil | exact lend_dead | apply lends_cons | apply lend_agg | apply lend_one | exact all2_nil | apply all2_cons | exact la_lit rfl | exact la_int (by first | rfl | omega) | exact la_row rfl rfl | exact la_loc rfl rfl rfl (by first | rfl | simp [mkL_length]) (by first | rfl | simp) | exact la_nil rfl | apply la_fn rfl | exact lend_same rfl rfl | exact lend_bor rfl rfl)), ?_⟩; (conv => whnf)
      (split <;> rename_i h5 <;> (try simp only [decide_eq_true_eq, decide_eq_false_iff_not, Bool.not_eq_true', Bool.not_eq_false', Bool.not_eq_true, Bool.not_eq_false, List.length_map] at h5) <;> conv => whnf)
      case h_2 => exact ⟨close_bool (by simp only [atWork, hx, h5, Bool.true_and, Bool.false_and]), trivial⟩
      refine ⟨_, _, containsStep_c c.steps 202 [.lit (.int .i64 n)] rfl (fun s => !wi s.drive 0 (n - 1)) hsl (fun s _ => atWork1_c s n hn), lends_cons (lend_one (la_row rfl rfl)) (lends_cons (lend_one (la_fn rfl (all2_cons (la_ptr rfl rfl rfl (all2_cons (la_lit rfl) all2_nil)) all2_nil))) lends_nil), ?_⟩; (conv => whnf)
      have hany : (!c.steps.any fun s => !wi s.drive 0 (n - 1)) = stepsOk n c.steps := any_nots
      (split <;> rename_i h6 <;> (try simp only [decide_eq_true_eq, decide_eq_false_iff_not, Bool.not_eq_true', Bool.not_eq_false', Bool.not_eq_true, Bool.not_eq_false, List.length_map] at h6) <;> conv => whnf)
      case h_2 =>
        rw [h6] at hany
        exact ⟨close_bool (by simp only [atWork, hx, h5, ← hany, Bool.true_and, Bool.false_and, Bool.not_true]), trivial⟩
      rw [h6] at hany
      replace h6 : stepsOk n c.steps = true := hany.symm
      refine ⟨_, _, sizeStep_c c.steps, (by repeat' (first | exact lends_nil | exact lend_dead | apply lends_cons | apply lend_agg | apply lend_one | exact all2_nil | apply all2_cons | exact la_lit rfl | exact la_int (by first | rfl | omega) | exact la_row rfl rfl | exact la_loc rfl rfl rfl (by first | rfl | simp [mkL_length]) (by first | rfl | simp) | exact la_nil rfl | apply la_fn rfl | exact lend_same rfl rfl | exact lend_bor rfl rfl)), ?_⟩; (conv => whnf)
      refine ⟨(c.steps.length : Int) - 1, wrap64_id (by omega) (by omega), ?_⟩; (conv => whnf)
      refine ⟨_, _, within_w c.at_ 0 ((c.steps.length : Int) - 1), (by repeat' (first | exact lends_nil | exact lend_dead | apply lends_cons | apply lend_agg | apply lend_one | exact all2_nil | apply all2_cons | exact la_lit rfl | exact la_int (by first | rfl | omega) | exact la_row rfl rfl | exact la_loc rfl rfl rfl (by first | rfl | simp [mkL_length]) (by first | rfl | simp) | exact la_nil rfl | apply la_fn rfl | exact lend_same rfl rfl | exact lend_bor rfl rfl)), ?_⟩; (conv => whnf)
      (split <;> rename_i h7 <;> (try simp only [decide_eq_true_eq, decide_eq_false_iff_not, Bool.not_eq_true', Bool.not_eq_false', Bool.not_eq_true, Bool.not_eq_false, List.length_map] at h7) <;> conv => whnf)
      case h_2 => exact ⟨close_bool (by simp only [atWork, hx, h5, h6, h7, Bool.true_and, Bool.false_and]), trivial⟩
      refine ⟨_, _, within_w c.until_ 0 2000000000, (by repeat' (first | exact lends_nil | exact lend_dead | apply lends_cons | apply lend_agg | apply lend_one | exact all2_nil | apply all2_cons | exact la_lit rfl | exact la_int (by first | rfl | omega) | exact la_row rfl rfl | exact la_loc rfl rfl rfl (by first | rfl | simp [mkL_length]) (by first | rfl | simp) | exact la_nil rfl | apply la_fn rfl | exact lend_same rfl rfl | exact lend_bor rfl rfl)), ?_⟩; (conv => whnf)
      exact ⟨close_bool (by simp only [atWork, hx, h5, h6, h7, Bool.true_and]), trivial⟩
    · have hna : named c = false := by simp [named, h1, h8]
      (first | (split <;> rename_i h9 <;> first | (exfalso; first | (simp at h9; done) | (simp at h9; omega) | (simp_all; done) | (simp_all; omega)) | (conv => whnf)) | skip)
      (split <;> rename_i h3 <;> (try simp only [decide_eq_true_eq, decide_eq_false_iff_not, Bool.not_eq_true', Bool.not_eq_false', Bool.not_eq_true, Bool.not_eq_false, List.length_map] at h3) <;> conv => whnf)
      · have hx : (wi c.cmd 1 4 && ((named c && nameOk c.name 20) || (!named c && decide (c.name = ⟨#[]⟩)))) = true := by simp only [hna, h2, h3, Bool.true_and, Bool.false_and, Bool.false_or, Bool.not_false, decide_true]
        refine ⟨_, _, sizeStep_c c.steps, (by repeat' (first | exact lends_nil | exact lend_dead | apply lends_cons | apply lend_agg | apply lend_one | exact all2_nil | apply all2_cons | exact la_lit rfl | exact la_int (by first | rfl | omega) | exact la_row rfl rfl | exact la_loc rfl rfl rfl (by first | rfl | simp [mkL_length]) (by first | rfl | simp) | exact la_nil rfl | apply la_fn rfl | exact lend_same rfl rfl | exact lend_bor rfl rfl)), ?_⟩; (conv => whnf)
        refine ⟨_, _, within_w c.steps.length 1 400, (by repeat' (first | exact lends_nil | exact lend_dead | apply lends_cons | apply lend_agg | apply lend_one | exact all2_nil | apply all2_cons | exact la_lit rfl | exact la_int (by first | rfl | omega) | exact la_row rfl rfl | exact la_loc rfl rfl rfl (by first | rfl | simp [mkL_length]) (by first | rfl | simp) | exact la_nil rfl | apply la_fn rfl | exact lend_same rfl rfl | exact lend_bor rfl rfl)), ?_⟩; (conv => whnf)
        (split <;> rename_i h5 <;> (try simp only [decide_eq_true_eq, decide_eq_false_iff_not, Bool.not_eq_true', Bool.not_eq_false', Bool.not_eq_true, Bool.not_eq_false, List.length_map] at h5) <;> conv => whnf)
        case h_2 => exact ⟨close_bool (by simp only [atWork, hx, h5, Bool.true_and, Bool.false_and]), trivial⟩
        refine ⟨_, _, containsStep_c c.steps 202 [.lit (.int .i64 n)] rfl (fun s => !wi s.drive 0 (n - 1)) hsl (fun s _ => atWork1_c s n hn), lends_cons (lend_one (la_row rfl rfl)) (lends_cons (lend_one (la_fn rfl (all2_cons (la_ptr rfl rfl rfl (all2_cons (la_lit rfl) all2_nil)) all2_nil))) lends_nil), ?_⟩; (conv => whnf)
        have hany : (!c.steps.any fun s => !wi s.drive 0 (n - 1)) = stepsOk n c.steps := any_nots
        (split <;> rename_i h6 <;> (try simp only [decide_eq_true_eq, decide_eq_false_iff_not, Bool.not_eq_true', Bool.not_eq_false', Bool.not_eq_true, Bool.not_eq_false, List.length_map] at h6) <;> conv => whnf)
        case h_2 =>
          rw [h6] at hany
          exact ⟨close_bool (by simp only [atWork, hx, h5, ← hany, Bool.true_and, Bool.false_and, Bool.not_true]), trivial⟩
        rw [h6] at hany
        replace h6 : stepsOk n c.steps = true := hany.symm
        refine ⟨_, _, sizeStep_c c.steps, (by repeat' (first | exact lends_nil | exact lend_dead | apply lends_cons | apply lend_agg | apply lend_one | exact all2_nil | apply all2_cons | exact la_lit rfl | exact la_int (by first | rfl | omega) | exact la_row rfl rfl | exact la_loc rfl rfl rfl (by first | rfl | simp [mkL_length]) (by first | rfl | simp) | exact la_nil rfl | apply la_fn rfl | exact lend_same rfl rfl | exact lend_bor rfl rfl)), ?_⟩; (conv => whnf)
        refine ⟨(c.steps.length : Int) - 1, wrap64_id (by omega) (by omega), ?_⟩; (conv => whnf)
        refine ⟨_, _, within_w c.at_ 0 ((c.steps.length : Int) - 1), (by repeat' (first | exact lends_nil | exact lend_dead | apply lends_cons | apply lend_agg | apply lend_one | exact all2_nil | apply all2_cons | exact la_lit rfl | exact la_int (by first | rfl | omega) | exact la_row rfl rfl | exact la_loc rfl rfl rfl (by first | rfl | simp [mkL_length]) (by first | rfl | simp) | exact la_nil rfl | apply la_fn rfl | exact lend_same rfl rfl | exact lend_bor rfl rfl)), ?_⟩; (conv => whnf)
        (split <;> rename_i h7 <;> (try simp only [decide_eq_true_eq, decide_eq_false_iff_not, Bool.not_eq_true', Bool.not_eq_false', Bool.not_eq_true, Bool.not_eq_false, List.length_map] at h7) <;> conv => whnf)
        case h_2 => exact ⟨close_bool (by simp only [atWork, hx, h5, h6, h7, Bool.true_and, Bool.false_and]), trivial⟩
        refine ⟨_, _, within_w c.until_ 0 2000000000, (by repeat' (first | exact lends_nil | exact lend_dead | apply lends_cons | apply lend_agg | apply lend_one | exact all2_nil | apply all2_cons | exact la_lit rfl | exact la_int (by first | rfl | omega) | exact la_row rfl rfl | exact la_loc rfl rfl rfl (by first | rfl | simp [mkL_length]) (by first | rfl | simp) | exact la_nil rfl | apply la_fn rfl | exact lend_same rfl rfl | exact lend_bor rfl rfl)), ?_⟩; (conv => whnf)
        exact ⟨close_bool (by simp only [atWork, hx, h5, h6, h7, Bool.true_and]), trivial⟩
      · exact ⟨close_bool (by simp only [atWork, hna, h2, h3, Bool.true_and, Bool.false_and, Bool.false_or, Bool.not_false, decide_false]), trivial⟩
end Go.Proofs.Ytlijeincckbdaaa
