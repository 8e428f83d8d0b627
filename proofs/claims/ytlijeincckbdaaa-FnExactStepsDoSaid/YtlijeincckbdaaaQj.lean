/- Contracts: clients at work, right worlds, locks. -/
import Derived.Test.YtlijeincckbdaaaQi
namespace Go.Proofs.Ytlijeincckbdaaa
open Go.RowKit
set_option linter.unusedSimpArgs false
set_option linter.unusedVariables false
set_option maxRecDepth 100000
set_option maxHeartbeats 8000000
theorem atWorkImpl_c (c : DClient) (hc : c.ok) (n : Int) (hn : 0 ≤ n ∧ n ≤ 4294967296) : Fun1 Try.prog 138 [.agg c.enc, .one (.lit (.int .i64 n))] (.one (.lit (.bool (atWork n c)))) := by
  obtain ⟨hcmd, hnm, ⟨hsl, hso⟩, hat, hun⟩ := hc
  refine fun1_of_vc tb_ok mix (fn := Try.f138) Try.func138 rfl (by kernel_rfl) (by kernel_rfl) (by simp [Try.f138]) (by rfl) ?_
  (conv => whnf)
  (split <;> rename_i h1 <;> (try simp only [decide_eq_true_eq, decide_eq_false_iff_not, Bool.not_eq_true', Bool.not_eq_false', Bool.not_eq_true, Bool.not_eq_false, List.length_map] at h1) <;> conv => whnf)
  · have hna : named c = true := by simp [named, h1]
    refine ⟨_, _, isCmd_c c.cmd, (by repeat' (first | exact lends_nil | exact lend_dead | apply lends_cons | apply lend_agg | apply lend_one | exact all2_nil | apply all2_cons | exact la_lit rfl | exact la_int (by first | rfl | omega) | exact la_row rfl rfl | exact la_loc rfl rfl rfl (by first | rfl | simp [mkL_length]) (by first | rfl | simp) | exact la_nil rfl | apply la_fn rfl | exact lend_same rfl rfl | exact lend_bor rfl rfl)), ?_⟩; (conv => whnf)
    (split <;> rename_i h2 <;> (try simp only [decide_eq_true_eq, decide_eq_false_iff_not, Bool.not_eq_true', Bool.not_eq_false', Bool.not_eq_true, Bool.not_eq_false, List.length_map] at h2) <;> conv => whnf)
    case h_2 => exact ⟨close_bool (by simp only [atWork, h2, Bool.false_and]), trivial⟩
    refine ⟨_, _, snapName_c c.name hnm, (by repeat' (first | exact lends_nil | exact lend_dead | apply lends_cons | apply lend_agg | apply lend_one | exact all2_nil | apply all2_cons | exact la_lit rfl | exact la_int (by first | rfl | omega) | exact la_row rfl rfl | exact la_loc rfl rfl rfl (by first | rfl | simp [mkL_length]) (by first | rfl | simp) | exact la_nil rfl | apply la_fn rfl | exact lend_same rfl rfl | exact lend_bor rfl rfl)), ?_⟩; (conv => whnf)
    (split <;> rename_i h3 <;> (try simp only [decide_eq_true_eq, decide_eq_false_iff_not, Bool.not_eq_true', Bool.not_eq_false', Bool.not_eq_true, Bool.not_eq_false, List.length_map] at h3) <;> conv => whnf)
    case h_2 =>
      (first | (split <;> rename_i h9 <;> first | (exfalso; first | (simp at h9; done) | (simp at h9; omega) | (simp_all; done) | (simp_all; omega)) | (conv => whnf)) | skip)
      exact ⟨close_bool (by simp only [atWork, hna, h2, h3, Bool.true_and, Bool.false_and, Bool.not_true, Bool.or_self]), trivial⟩
    have hx : (wi c.cmd 1 4 && ((named c && nameOk c.name 20) || (!named c && decide (c.name = ⟨#[]⟩)))) = true := by simp only [hna, h2, h3, Bool.true_and, Bool.true_or]
    refine ⟨_, _, sizeStep_c c.steps, (by repeat' (first | exact lends_nil | exact lend_dead | apply lends_cons | apply lend_agg | apply lend_one | exact all2_nil | apply all2_cons | exact la_lit rfl | exact la_int (by first | rfl | omega) | exact la_row rfl rfl | exact la_loc rfl rfl rfl (by first | rfl | simp [mkL_length]) (by first | rfl | simp) | exact la_nil rfl | apply la_fn rfl | exact lend_same rfl rfl | exact lend_bor rfl rfl)), ?_⟩; (conv => whnf)
    refine ⟨_, _, within_w c.steps.length 1 400, (by repeat' (first | exact lends_nil | exact lend_dead | apply lends_cons | apply lend_agg | apply lend_one | exact all2_nil | apply all2_cons | exact la_lit rfl | exact la_int (by first | rfl | omega) | exact la_row rfl rfl | exact la_loc rfl rfl rfl (by first | rfl | simp [mkL_length]) (by first | rfl | simp) | exact la_nil rfl | apply la_fn rfl | exact lend_same rfl rfl | exact lend_bor rfl rfl)), ?_⟩; (conv => whnf)
    (split <;> rename_i h5 <;> (try simp only [decide_eq_true_eq, decide_eq_false_iff_not, Bool.not_eq_true', Bool.not_eq_false', Bool.not_eq_true, Bool.not_eq_false, List.length_map] at h5) <;> conv => whnf)
    case h_2 => exact ⟨close_bool (by simp only [atWork, hx, h5, Bool.true_and, Bool.false_and]), trivial⟩
    refine ⟨_, _, containsStep_c c.steps 202 [.lit (.int .i64 n)] rfl (fun s => !wi s.drive 0 (n - 1)) hsl (fun s _ => atWork1_c s n hn), lends_cons (lend_one (la_row rfl rfl)) (lends_cons (lend_one (la_fn rfl (all2_cons (la_ptr rfl rfl rfl (all2_cons (la_lit rfl) all2_nil)) all2_nil))) lends_nil), ?_⟩; (conv => whnf)
    have hany : (!c.steps.any fun s => !wi s.drive 0 (n - 1)) = stepsOk n c.steps := any_nots
    (split <;> rename_i h6 <;> (try simp only [decide_eq_true_eq, decide_eq_false_iff_not, Bool.not_eq_true', Bool.not_eq_false', Bool.not_eq_true, Bool.not_eq_false, List.length_map] at h6) <;> conv => whnf)
    case h_2 =>
      rw [h6] at hany
      exact ⟨close_bool (by simp only [atWork, hx, h5, ← hany, Bool.true_and, Bool.false_and, Bool.not_true]), trivial⟩
    rw [h6] at hany
    replace h6 : stepsOk n c.steps = true := hany.symm
    refine ⟨_, _, sizeStep_c c.steps, (by repeat' (first | exact lends_nil | exact lend_dead | apply lends_cons | apply lend_agg | apply lend_one | exact all2_nil | apply all2_cons | exact la_lit rfl | exact la_int (by first | rfl | omega) | exact la_row rfl rfl | exact la_loc rfl rfl rfl (by first | rfl | simp [mkL_length]) (by first | rfl | simp) | exact la_nil rfl | apply la_fn rfl | exact lend_same rfl rfl | exact lend_bor rfl rfl)), ?_⟩; (conv => whnf)
    refine ⟨(c.steps.length : Int) - 1, wrap64_id (by omega) (by omega), ?_⟩; (conv => whnf)
    refine ⟨_, _, within_w c.at_ 0 ((c.steps.length : Int) - 1), (by repeat' (first | exact lends_nil | exact lend_dead | apply lends_cons | apply lend_agg | apply lend_one | exact all2_nil | apply all2_cons | exact la_lit rfl | exact la_int (by first | rfl | omega) | exact la_row rfl rfl | exact la_loc rfl rfl rfl (by first | rfl | simp [mkL_length]) (by first | rfl | simp) | exact la_nil rfl | apply la_fn rfl | exact lend_same rfl rfl | exact lend_bor rfl rfl)), ?_⟩; (conv => whnf)
    (split <;> rename_i h7 <;> (try simp only [decide_eq_true_eq, decide_eq_false_iff_not, Bool.not_eq_true', Bool.not_eq_false', Bool.not_eq_true, Bool.not_eq_false, List.length_map] at h7) <;> conv => whnf)
    case h_2 => exact ⟨close_bool (by simp only [atWork, hx, h5, h6, h7, Bool.true_and, Bool.false_and]), trivial⟩
    refine ⟨_, _, within_w c.until_ 0 2000000000, (by repeat' (first | exact lends_nil | exact lend_dead | apply lends_cons | apply lend_agg | apply lend_one | exact all2_nil | apply all2_cons | exact la_lit rfl | exact la_int (by first | rfl | omega) | exact la_row rfl rfl | exact la_loc rfl rfl rfl (by first | rfl | simp [mkL_length]) (by first | rfl | simp) | exact la_nil rfl | apply la_fn rfl | exact lend_same rfl rfl | exact lend_bor rfl rfl)), ?_⟩; (conv => whnf)
    exact ⟨close_bool (by simp only [atWork, hx, h5, h6, h7, Bool.true_and]), trivial⟩
  · refine ⟨_, _, isCmd_c c.cmd, (by repeat' (first | exact lends_nil | exact lend_dead | apply lends_cons | apply lend_agg | apply lend_one | exact all2_nil | apply all2_cons | exact la_lit rfl | exact la_int (by first | rfl | omega) | exact la_row rfl rfl | exact la_loc rfl rfl rfl (by first | rfl | simp [mkL_length]) (by first | rfl | simp) | exact la_nil rfl | apply la_fn rfl | exact lend_same rfl rfl | exact lend_bor rfl rfl)), ?_⟩; (conv => whnf)
    (split <;> rename_i h2 <;> (try simp only [decide_eq_true_eq, decide_eq_false_iff_not, Bool.not_eq_true', Bool.not_eq_false', Bool.not_eq_true, Bool.not_eq_false, List.length_map] at h2) <;> conv => whnf)
    case h_2 => exact ⟨close_bool (by simp only [atWork, h2, Bool.false_and]), trivial⟩
    (split <;> rename_i h8 <;> (try simp only [decide_eq_true_eq, decide_eq_false_iff_not, Bool.not_eq_true', Bool.not_eq_false', Bool.not_eq_true, Bool.not_eq_false, List.length_map] at h8) <;> conv => whnf)
    · have hna : named c = true := by simp [named, h8]
      refine ⟨_, _, snapName_c c.name hnm, (by repeat' (first | exact lends_nil | exact lend_dead | apply lends_cons | apply lend_agg | apply lend_one | exact all2_nil | apply all2_cons | exact la_lit rfl | exact la_int (by first | rfl | omega) | exact la_row rfl rfl | exact la_loc rfl rfl rfl (by first | rfl | simp [mkL_length]) (by first | rfl | simp) | exact la_nil rfl | apply la_fn rfl | exact lend_same rfl rfl | exact lend_bor rfl rfl)), ?_⟩; (conv => whnf)
      (split <;> rename_i h3 <;> (try simp only [decide_eq_true_eq, decide_eq_false_iff_not, Bool.not_eq_true', Bool.not_eq_false', Bool.not_eq_true, Bool.not_eq_false, List.length_map] at h3) <;> conv => whnf)
      case h_2 =>
        (first | (split <;> rename_i h9 <;> first | (exfalso; first | (simp at h9; done) | (simp at h9; omega) | (simp_all; done) | (simp_all; omega)) | (conv => whnf)) | skip)
        exact ⟨close_bool (by simp only [atWork, hna, h2, h3, Bool.true_and, Bool.false_and, Bool.not_true, Bool.or_self]), trivial⟩
      have hx : (wi c.cmd 1 4 && ((named c && nameOk c.name 20) || (!named c && decide (c.name = ⟨#[]⟩)))) = true := by simp only [hna, h2, h3, Bool.true_and, Bool.true_or]
      refine ⟨_, _, sizeStep_c c.steps, (by repeat' (first | exact lends_nil | exact lend_dead | apply lends_cons | apply lend_agg | apply lend_one | exact all2_nil | apply all2_cons | exact la_lit rfl | exact la_int (by first | rfl | omega) | exact la_row rfl rfl | exact la_loc rfl rfl rfl (by first | rfl | simp [mkL_length]) (by first | rfl | simp) | exact la_nil rfl | apply la_fn rfl | exact lend_same rfl rfl | exact lend_bor rfl rfl)), ?_⟩; (conv => whnf)
      refine ⟨_, _, within_w c.steps.length 1 400, (by repeat' (first | exact lends_nil | exact lend_dead | apply lends_cons | apply lend_agg | apply lend_one | exact all2_nil | apply all2_cons | exact la_lit rfl | exact la_int (by first | rfl | omega) | exact la_row rfl rfl | exact la_loc rfl rfl rfl (by first | rfl | simp [mkL_length]) (by first | rfl | simp) | exact la_nil rfl | apply la_fn rfl | exact lend_same rfl rfl | exact lend_bor rfl rfl)), ?_⟩; (conv => whnf)
      (split <;> rename_i h5 <;> (try simp only [decide_eq_true_eq, decide_eq_false_iff_not, Bool.not_eq_true', Bool.not_eq_false', Bool.not_eq_true, Bool.not_eq_false, List.length_map] at h5) <;> conv => whnf)
      case h_2 => exact ⟨close_bool (by simp only [atWork, hx, h5, Bool.true_and, Bool.false_and]), trivial⟩
      refine ⟨_, _, containsStep_c c.steps 202 [.lit (.int .i64 n)] rfl (fun s => !wi s.drive 0 (n - 1)) hsl (fun s _ => atWork1_c s n hn), lends_cons (lend_one (la_row rfl rfl)) (lends_cons (lend_one (la_fn rfl (all2_cons (la_ptr rfl rfl rfl (all2_cons (la_lit rfl) all2_nil)) all2_nil))) lends_nil), ?_⟩; (conv => whnf)
      have hany : (!c.steps.any fun s => !wi s.drive 0 (n - 1)) = stepsOk n c.steps := any_nots
      (split <;> rename_i h6 <;> (try simp only [decide_eq_true_eq, decide_eq_false_iff_not, Bool.not_eq_true', Bool.not_eq_false', Bool.not_eq_true, Bool.not_eq_false, List.length_map] at h6) <;> conv => whnf)
      case h_2 =>
        rw [h6] at hany
        exact ⟨close_bool (by simp only [atWork, hx, h5, ← hany, Bool.true_and, Bool.false_and, Bool.not_true]), trivial⟩
      rw [h6] at hany
      replace h6 : stepsOk n c.steps = true := hany.symm
      refine ⟨_, _, sizeStep_c c.steps, (by repeat' (first | exact lends_nil | exact lend_dead | apply lends_cons | apply lend_agg | apply lend_one | exact all2_nil | apply all2_cons | exact la_lit rfl | exact la_int (by first | rfl | omega) | exact la_row rfl rfl | exact la_loc rfl rfl rfl (by first | rfl | simp [mkL_length]) (by first | rfl | simp) | exact la_nil rfl | apply la_fn rfl | exact lend_same rfl rfl | exact lend_bor rfl rfl)), ?_⟩; (conv => whnf)
      refine ⟨(c.steps.length : Int) - 1, wrap64_id (by omega) (by omega), ?_⟩; (conv => whnf)
      refine ⟨_, _, within_w c.at_ 0 ((c.steps.length : Int) - 1), (by repeat' (first | exact lends_nil | exact lend_dead | apply lends_cons | apply lend_agg | apply lend_one | exact all2_nil | apply all2_cons | exact la_lit rfl | exact la_int (by first | rfl | omega) | exact la_row rfl rfl | exact la_loc rfl rfl rfl (by first | rfl | simp [mkL_length]) (by first | rfl | simp) | exact la_nil rfl | apply la_fn rfl | exact lend_same rfl rfl | exact lend_bor rfl rfl)), ?_⟩; (conv => whnf)
      (split <;> rename_i h7 <;> (try simp only [decide_eq_true_eq, decide_eq_false_iff_not, Bool.not_eq_true', Bool.not_eq_false', Bool.not_eq_true, Bool.not_eq_false, List.length_map] at h7) <;> conv => whnf)
      case h_2 => exact ⟨close_bool (by simp only [atWork, hx, h5, h6, h7, Bool.true_and, Bool.false_and]), trivial⟩
      refine ⟨_, _, within_w c.until_ 0 2000000000, (by repeat' (first | exact lends_nil | exact lend_dead | apply lends_cons | apply lend_agg | apply lend_one | exact all2_nil | apply all2_cons | exact la_lit rfl | exact la_int (by first | rfl | omega) | exact la_row rfl rfl | exact la_loc rfl rfl rfl (by first | rfl | simp [mkL_length]) (by first | rfl | simp) | exact la_nil rfl | apply la_fn rfl | exact lend_same rfl rfl | exact lend_bor rfl rfl)), ?_⟩; (conv => whnf)
      exact ⟨close_bool (by simp only [atWork, hx, h5, h6, h7, Bool.true_and]), trivial⟩
    · have hna : named c = false := by simp [named, h1, h8]
      (first | (split <;> rename_i h9 <;> first | (exfalso; first | (simp at h9; done) | (simp at h9; omega) | (simp_all; done) | (simp_all; omega)) | (conv => whnf)) | skip)
      (split <;> rename_i h3 <;> (try simp only [decide_eq_true_eq, decide_eq_false_iff_not, Bool.not_eq_true', Bool.not_eq_false', Bool.not_eq_true, Bool.not_eq_false, List.length_map] at h3) <;> conv => whnf)
      · have hx : (wi c.cmd 1 4 && ((named c && nameOk c.name 20) || (!named c && decide (c.name = ⟨#[]⟩)))) = true := by simp only [hna, h2, h3, Bool.true_and, Bool.false_and, Bool.false_or, Bool.not_false, decide_true]
        refine ⟨_, _, sizeStep_c c.steps, (by repeat' (first | exact lends_nil | exact lend_dead | apply lends_cons | apply lend_agg | apply lend_one | exact all2_nil | apply all2_cons | exact la_lit rfl | exact la_int (by first | rfl | omega) | exact la_row rfl rfl | exact la_loc rfl rfl rfl (by first | rfl | simp [mkL_length]) (by first | rfl | simp) | exact la_nil rfl | apply la_fn rfl | exact lend_same rfl rfl | exact lend_bor rfl rfl)), ?_⟩; (conv => whnf)
        refine ⟨_, _, within_w c.steps.length 1 400, (by repeat' (first | exact lends_nil | exact lend_dead | apply lends_cons | apply lend_agg | apply lend_one | exact all2_nil | apply all2_cons | exact la_lit rfl | exact la_int (by first | rfl | omega) | exact la_row rfl rfl | exact la_loc rfl rfl rfl (by first | rfl | simp [mkL_length]) (by first | rfl | simp) | exact la_nil rfl | apply la_fn rfl | exact lend_same rfl rfl | exact lend_bor rfl rfl)), ?_⟩; (conv => whnf)
        (split <;> rename_i h5 <;> (try simp only [decide_eq_true_eq, decide_eq_false_iff_not, Bool.not_eq_true', Bool.not_eq_false', Bool.not_eq_true, Bool.not_eq_false, List.length_map] at h5) <;> conv => whnf)
        case h_2 => exact ⟨close_bool (by simp only [atWork, hx, h5, Bool.true_and, Bool.false_and]), trivial⟩
        refine ⟨_, _, containsStep_c c.steps 202 [.lit (.int .i64 n)] rfl (fun s => !wi s.drive 0 (n - 1)) hsl (fun s _ => atWork1_c s n hn), lends_cons (lend_one (la_row rfl rfl)) (lends_cons (lend_one (la_fn rfl (all2_cons (la_ptr rfl rfl rfl (all2_cons (la_lit rfl) all2_nil)) all2_nil))) lends_nil), ?_⟩; (conv => whnf)
        have hany : (!c.steps.any fun s => !wi s.drive 0 (n - 1)) = stepsOk n c.steps := any_nots
        (split <;> rename_i h6 <;> (try simp only [decide_eq_true_eq, decide_eq_false_iff_not, Bool.not_eq_true', Bool.not_eq_false', Bool.not_eq_true, Bool.not_eq_false, List.length_map] at h6) <;> conv => whnf)
        case h_2 =>
          rw [h6] at hany
          exact ⟨close_bool (by simp only [atWork, hx, h5, ← hany, Bool.true_and, Bool.false_and, Bool.not_true]), trivial⟩
        rw [h6] at hany
        replace h6 : stepsOk n c.steps = true := hany.symm
        refine ⟨_, _, sizeStep_c c.steps, (by repeat' (first | exact lends_nil | exact lend_dead | apply lends_cons | apply lend_agg | apply lend_one | exact all2_nil | apply all2_cons | exact la_lit rfl | exact la_int (by first | rfl | omega) | exact la_row rfl rfl | exact la_loc rfl rfl rfl (by first | rfl | simp [mkL_length]) (by first | rfl | simp) | exact la_nil rfl | apply la_fn rfl | exact lend_same rfl rfl | exact lend_bor rfl rfl)), ?_⟩; (conv => whnf)
        refine ⟨(c.steps.length : Int) - 1, wrap64_id (by omega) (by omega), ?_⟩; (conv => whnf)
        refine ⟨_, _, within_w c.at_ 0 ((c.steps.length : Int) - 1), (by repeat' (first | exact lends_nil | exact lend_dead | apply lends_cons | apply lend_agg | apply lend_one | exact all2_nil | apply all2_cons | exact la_lit rfl | exact la_int (by first | rfl | omega) | exact la_row rfl rfl | exact la_loc rfl rfl rfl (by first | rfl | simp [mkL_length]) (by first | rfl | simp) | exact la_nil rfl | apply la_fn rfl | exact lend_same rfl rfl | exact lend_bor rfl rfl)), ?_⟩; (conv => whnf)
        (split <;> rename_i h7 <;> (try simp only [decide_eq_true_eq, decide_eq_false_iff_not, Bool.not_eq_true', Bool.not_eq_false', Bool.not_eq_true, Bool.not_eq_false, List.length_map] at h7) <;> conv => whnf)
        case h_2 => exact ⟨close_bool (by simp only [atWork, hx, h5, h6, h7, Bool.true_and, Bool.false_and]), trivial⟩
        refine ⟨_, _, within_w c.until_ 0 2000000000, (by repeat' (first | exact lends_nil | exact lend_dead | apply lends_cons | apply lend_agg | apply lend_one | exact all2_nil | apply all2_cons | exact la_lit rfl | exact la_int (by first | rfl | omega) | exact la_row rfl rfl | exact la_loc rfl rfl rfl (by first | rfl | simp [mkL_length]) (by first | rfl | simp) | exact la_nil rfl | apply la_fn rfl | exact lend_same rfl rfl | exact lend_bor rfl rfl)), ?_⟩; (conv => whnf)
        exact ⟨close_bool (by simp only [atWork, hx, h5, h6, h7, Bool.true_and]), trivial⟩
      · exact ⟨close_bool (by simp only [atWork, hna, h2, h3, Bool.true_and, Bool.false_and, Bool.false_or, Bool.not_false, decide_false]), trivial⟩
end Go.Proofs.Ytlijeincckbdaaa
namespace Go.Proofs.Ytlijeincckbdaaa
open Go.RowKit
set_option linter.unusedSimpArgs false
set_option linter.unusedVariables false
set_option maxRecDepth 100000
set_option maxHeartbeats 8000000
theorem nameOk_ne {s : ByteArray} (h : nameOk s 20 = true) : ¬ s = ⟨#[]⟩ := by
  rintro rfl
  simp [nameOk, ByteArray.size] at h
theorem l16Client_c (x : DArray) (c : DClient) (hc : c.ok) (hdl : x.drives.length ≤ 4294967296) : Fun1 Try.prog 131 [.agg x.enc, .agg c.enc] (.one (.lit (.bool (idleOk c || atWork x.drives.length c)))) := by
  obtain ⟨hcmd, hnm, ⟨hsl, hso⟩, hat, hun⟩ := hc
  refine fun1_of_vc tb_ok mix (fn := Try.f131) Try.func131 rfl (by kernel_rfl) (by kernel_rfl) (by simp [Try.f131]) (by rfl) ?_
  (conv => whnf)
  refine ⟨_, _, idleSpec_c c, (by repeat' (first | exact lends_nil | exact lend_dead | apply lends_cons | apply lend_agg | apply lend_one | exact all2_nil | apply all2_cons | exact la_lit rfl | exact la_int (by first | rfl | omega) | exact la_row rfl rfl | exact la_loc rfl rfl rfl (by first | rfl | simp [mkL_length]) (by first | rfl | simp) | exact la_nil rfl | apply la_fn rfl | exact lend_same rfl rfl | exact lend_bor rfl rfl)), ?_⟩; (conv => whnf)
  (split <;> rename_i h0 <;> (try simp only [decide_eq_true_eq, decide_eq_false_iff_not, Bool.not_eq_true', Bool.not_eq_false', Bool.not_eq_true, Bool.not_eq_false, List.length_map] at h0) <;> conv => whnf)
  · exact ⟨close_bool (by rw [h0]; rfl), trivial⟩
  rw [h0, Bool.false_or]
  (split <;> rename_i h1 <;> (try simp only [decide_eq_true_eq, decide_eq_false_iff_not, Bool.not_eq_true', Bool.not_eq_false', Bool.not_eq_true, Bool.not_eq_false, List.length_map] at h1) <;> conv => whnf)
  · have hna : named c = true := by simp [named, h1]
    refine ⟨_, _, l16Cmd_c c.cmd, (by repeat' (first | exact lends_nil | exact lend_dead | apply lends_cons | apply lend_agg | apply lend_one | exact all2_nil | apply all2_cons | exact la_lit rfl | exact la_int (by first | rfl | omega) | exact la_row rfl rfl | exact la_loc rfl rfl rfl (by first | rfl | simp [mkL_length]) (by first | rfl | simp) | exact la_nil rfl | apply la_fn rfl | exact lend_same rfl rfl | exact lend_bor rfl rfl)), ?_⟩; (conv => whnf)
    (split <;> rename_i h2 <;> (try simp only [decide_eq_true_eq, decide_eq_false_iff_not, Bool.not_eq_true', Bool.not_eq_false', Bool.not_eq_true, Bool.not_eq_false, List.length_map] at h2) <;> conv => whnf)
    · exact ⟨close_bool (by simp only [atWork, h2, Bool.false_and]), trivial⟩
    refine ⟨_, _, l12Name_c c.name hnm, (by repeat' (first | exact lends_nil | exact lend_dead | apply lends_cons | apply lend_agg | apply lend_one | exact all2_nil | apply all2_cons | exact la_lit rfl | exact la_int (by first | rfl | omega) | exact la_row rfl rfl | exact la_loc rfl rfl rfl (by first | rfl | simp [mkL_length]) (by first | rfl | simp) | exact la_nil rfl | apply la_fn rfl | exact lend_same rfl rfl | exact lend_bor rfl rfl)), ?_⟩; (conv => whnf)
    cases hN : nameOk c.name 20 with
    | false =>
      (first | (split <;> rename_i h3 <;> first | (exfalso; first | (simp at h3; done) | (simp at h3; omega) | (simp_all; done) | (simp_all; omega)) | (conv => whnf)) | skip)
      exact ⟨close_bool (by simp [atWork, hna, hN]), trivial⟩
    | true =>
      have hfin : atWork x.drives.length c = (wi c.steps.length 1 400 && stepsOk x.drives.length c.steps && wi c.at_ 0 (c.steps.length - 1) && wi c.until_ 0 2000000000) := by simp [atWork, hna, hN, h2]
      (first | (split <;> rename_i h3 <;> first | (exfalso; first | (simp at h3; done) | (simp at h3; omega) | (simp_all; done) | (simp_all; omega)) | (conv => whnf)) | skip)
      (split <;> rename_i h10 <;> (try simp only [decide_eq_true_eq, decide_eq_false_iff_not, Bool.not_eq_true', Bool.not_eq_false', Bool.not_eq_true, Bool.not_eq_false, List.length_map] at h10) <;> conv => whnf)
      case h_2 => exact ⟨close_bool (by rw [hfin]; simp [wi]; omega), trivial⟩
      (split <;> rename_i h11 <;> (try simp only [decide_eq_true_eq, decide_eq_false_iff_not, Bool.not_eq_true', Bool.not_eq_false', Bool.not_eq_true, Bool.not_eq_false, List.length_map] at h11) <;> conv => whnf)
      case h_2 => exact ⟨close_bool (by rw [hfin]; simp [wi]; omega), trivial⟩
      refine ⟨_, _, l09StepsRight_c x c.steps hsl hdl, (by repeat' (first | exact lends_nil | exact lend_dead | apply lends_cons | apply lend_agg | apply lend_one | exact all2_nil | apply all2_cons | exact la_lit rfl | exact la_int (by first | rfl | omega) | exact la_row rfl rfl | exact la_loc rfl rfl rfl (by first | rfl | simp [mkL_length]) (by first | rfl | simp) | exact la_nil rfl | apply la_fn rfl | exact lend_same rfl rfl | exact lend_bor rfl rfl)), ?_⟩; (conv => whnf)
      (split <;> rename_i h12 <;> (try simp only [decide_eq_true_eq, decide_eq_false_iff_not, Bool.not_eq_true', Bool.not_eq_false', Bool.not_eq_true, Bool.not_eq_false, List.length_map] at h12) <;> conv => whnf)
      case h_2 => exact ⟨close_bool (by rw [hfin, h12]; simp), trivial⟩
      (repeat' (split <;> rename_i hb <;> (try simp only [decide_eq_true_eq, decide_eq_false_iff_not, Bool.not_eq_true', Bool.not_eq_false', Bool.not_eq_true, Bool.not_eq_false, List.length_map] at hb) <;> conv => whnf))
      all_goals exact ⟨close_bool (by first | (rw [hfin, h12]; simp [wi, *]; done) | (rw [hfin, h12]; simp [wi]; omega) | (rw [hfin, h12]; simp [wi, *]; omega)), trivial⟩
  · have hna : named c = decide (c.cmd = 2) := by simp [named, h1]
    refine ⟨_, _, l16Cmd_c c.cmd, (by repeat' (first | exact lends_nil | exact lend_dead | apply lends_cons | apply lend_agg | apply lend_one | exact all2_nil | apply all2_cons | exact la_lit rfl | exact la_int (by first | rfl | omega) | exact la_row rfl rfl | exact la_loc rfl rfl rfl (by first | rfl | simp [mkL_length]) (by first | rfl | simp) | exact la_nil rfl | apply la_fn rfl | exact lend_same rfl rfl | exact lend_bor rfl rfl)), ?_⟩; (conv => whnf)
    (split <;> rename_i h2 <;> (try simp only [decide_eq_true_eq, decide_eq_false_iff_not, Bool.not_eq_true', Bool.not_eq_false', Bool.not_eq_true, Bool.not_eq_false, List.length_map] at h2) <;> conv => whnf)
    · exact ⟨close_bool (by simp only [atWork, h2, Bool.false_and]), trivial⟩
    refine ⟨_, _, l12Name_c c.name hnm, (by repeat' (first | exact lends_nil | exact lend_dead | apply lends_cons | apply lend_agg | apply lend_one | exact all2_nil | apply all2_cons | exact la_lit rfl | exact la_int (by first | rfl | omega) | exact la_row rfl rfl | exact la_loc rfl rfl rfl (by first | rfl | simp [mkL_length]) (by first | rfl | simp) | exact la_nil rfl | apply la_fn rfl | exact lend_same rfl rfl | exact lend_bor rfl rfl)), ?_⟩; (conv => whnf)
    cases hN : nameOk c.name 20 with
    | false =>
      (split <;> rename_i h3 <;> (try simp only [decide_eq_true_eq, decide_eq_false_iff_not, Bool.not_eq_true', Bool.not_eq_false', Bool.not_eq_true, Bool.not_eq_false, List.length_map] at h3) <;> conv => whnf)
      · have hna' : named c = true := by rw [hna]; simpa using h3
        exact ⟨close_bool (by simp [atWork, hna', hN]), trivial⟩
      · have hna' : named c = false := by rw [hna]; simpa using h3
        (split <;> rename_i h4 <;> (try simp only [decide_eq_true_eq, decide_eq_false_iff_not, Bool.not_eq_true', Bool.not_eq_false', Bool.not_eq_true, Bool.not_eq_false, List.length_map] at h4) <;> conv => whnf)
        · (split <;> rename_i h5 <;> (try simp only [decide_eq_true_eq, decide_eq_false_iff_not, Bool.not_eq_true', Bool.not_eq_false', Bool.not_eq_true, Bool.not_eq_false, List.length_map] at h5) <;> conv => whnf)
          · exact ⟨close_bool (by simp [atWork, hna', hN, h5]), trivial⟩
          · have hfin : atWork x.drives.length c = (wi c.steps.length 1 400 && stepsOk x.drives.length c.steps && wi c.at_ 0 (c.steps.length - 1) && wi c.until_ 0 2000000000) := by simp [atWork, hna', hN, h2, h5]
            (split <;> rename_i h10 <;> (try simp only [decide_eq_true_eq, decide_eq_false_iff_not, Bool.not_eq_true', Bool.not_eq_false', Bool.not_eq_true, Bool.not_eq_false, List.length_map] at h10) <;> conv => whnf)
            case h_2 => exact ⟨close_bool (by rw [hfin]; simp [wi]; omega), trivial⟩
            (split <;> rename_i h11 <;> (try simp only [decide_eq_true_eq, decide_eq_false_iff_not, Bool.not_eq_true', Bool.not_eq_false', Bool.not_eq_true, Bool.not_eq_false, List.length_map] at h11) <;> conv => whnf)
            case h_2 => exact ⟨close_bool (by rw [hfin]; simp [wi]; omega), trivial⟩
            refine ⟨_, _, l09StepsRight_c x c.steps hsl hdl, (by repeat' (first | exact lends_nil | exact lend_dead | apply lends_cons | apply lend_agg | apply lend_one | exact all2_nil | apply all2_cons | exact la_lit rfl | exact la_int (by first | rfl | omega) | exact la_row rfl rfl | exact la_loc rfl rfl rfl (by first | rfl | simp [mkL_length]) (by first | rfl | simp) | exact la_nil rfl | apply la_fn rfl | exact lend_same rfl rfl | exact lend_bor rfl rfl)), ?_⟩; (conv => whnf)
            (split <;> rename_i h12 <;> (try simp only [decide_eq_true_eq, decide_eq_false_iff_not, Bool.not_eq_true', Bool.not_eq_false', Bool.not_eq_true, Bool.not_eq_false, List.length_map] at h12) <;> conv => whnf)
            case h_2 => exact ⟨close_bool (by rw [hfin, h12]; simp), trivial⟩
            (repeat' (split <;> rename_i hb <;> (try simp only [decide_eq_true_eq, decide_eq_false_iff_not, Bool.not_eq_true', Bool.not_eq_false', Bool.not_eq_true, Bool.not_eq_false, List.length_map] at hb) <;> conv => whnf))
            all_goals exact ⟨close_bool (by first | (rw [hfin, h12]; simp [wi, *]; done) | (rw [hfin, h12]; simp [wi]; omega) | (rw [hfin, h12]; simp [wi, *]; omega)), trivial⟩
        · rw [hna] at hna'; simp_all
    | true =>
      (split <;> rename_i h3 <;> (try simp only [decide_eq_true_eq, decide_eq_false_iff_not, Bool.not_eq_true', Bool.not_eq_false', Bool.not_eq_true, Bool.not_eq_false, List.length_map] at h3) <;> conv => whnf)
      · have hna' : named c = false := by rw [hna]; simpa using h3
        exact ⟨close_bool (by simp [atWork, hna', nameOk_ne hN]), trivial⟩
      · have hna' : named c = true := by rw [hna]; simpa using h3
        have hfin : atWork x.drives.length c = (wi c.steps.length 1 400 && stepsOk x.drives.length c.steps && wi c.at_ 0 (c.steps.length - 1) && wi c.until_ 0 2000000000) := by simp [atWork, hna', hN, h2]
        (split <;> rename_i h4 <;> (try simp only [decide_eq_true_eq, decide_eq_false_iff_not, Bool.not_eq_true', Bool.not_eq_false', Bool.not_eq_true, Bool.not_eq_false, List.length_map] at h4) <;> conv => whnf)
        · rw [hna] at hna'; simp_all
        (split <;> rename_i h10 <;> (try simp only [decide_eq_true_eq, decide_eq_false_iff_not, Bool.not_eq_true', Bool.not_eq_false', Bool.not_eq_true, Bool.not_eq_false, List.length_map] at h10) <;> conv => whnf)
        case h_2 => exact ⟨close_bool (by rw [hfin]; simp [wi]; omega), trivial⟩
        (split <;> rename_i h11 <;> (try simp only [decide_eq_true_eq, decide_eq_false_iff_not, Bool.not_eq_true', Bool.not_eq_false', Bool.not_eq_true, Bool.not_eq_false, List.length_map] at h11) <;> conv => whnf)
        case h_2 => exact ⟨close_bool (by rw [hfin]; simp [wi]; omega), trivial⟩
        refine ⟨_, _, l09StepsRight_c x c.steps hsl hdl, (by repeat' (first | exact lends_nil | exact lend_dead | apply lends_cons | apply lend_agg | apply lend_one | exact all2_nil | apply all2_cons | exact la_lit rfl | exact la_int (by first | rfl | omega) | exact la_row rfl rfl | exact la_loc rfl rfl rfl (by first | rfl | simp [mkL_length]) (by first | rfl | simp) | exact la_nil rfl | apply la_fn rfl | exact lend_same rfl rfl | exact lend_bor rfl rfl)), ?_⟩; (conv => whnf)
        (split <;> rename_i h12 <;> (try simp only [decide_eq_true_eq, decide_eq_false_iff_not, Bool.not_eq_true', Bool.not_eq_false', Bool.not_eq_true, Bool.not_eq_false, List.length_map] at h12) <;> conv => whnf)
        case h_2 => exact ⟨close_bool (by rw [hfin, h12]; simp), trivial⟩
        (repeat' (split <;> rename_i hb <;> (try simp only [decide_eq_true_eq, decide_eq_false_iff_not, Bool.not_eq_true', Bool.not_eq_false', Bool.not_eq_true, Bool.not_eq_false, List.length_map] at hb) <;> conv => whnf))
        all_goals exact ⟨close_bool (by first | (rw [hfin, h12]; simp [wi, *]; done) | (rw [hfin, h12]; simp [wi]; omega) | (rw [hfin, h12]; simp [wi, *]; omega)), trivial⟩
theorem world1_c (w : DWorld) (hdl : w.array.drives.length ≤ 4294967296) (c : DClient) (hc : c.ok) : Fun1 Try.prog 136 [.agg c.enc, .one (.bptr w.enc 0)] (.one (.lit (.bool (!idleOk c && !atWork w.array.drives.length c)))) := by
  refine fun1_of_vc tb_ok mix (fn := Try.f136) Try.func136 rfl (by kernel_rfl) (by kernel_rfl) (by simp [Try.f136]) (by rfl) ?_
  (conv => whnf)
  refine ⟨_, _, idleImpl_c c, (by repeat' (first | exact lends_nil | exact lend_dead | apply lends_cons | apply lend_agg | apply lend_one | exact all2_nil | apply all2_cons | exact la_lit rfl | exact la_int (by first | rfl | omega) | exact la_row rfl rfl | exact la_loc rfl rfl rfl (by first | rfl | simp [mkL_length]) (by first | rfl | simp) | exact la_nil rfl | apply la_fn rfl | exact lend_same rfl rfl | exact lend_bor rfl rfl)), ?_⟩; (conv => whnf)
  (split <;> rename_i h <;> (try simp only [decide_eq_true_eq, decide_eq_false_iff_not, Bool.not_eq_true', Bool.not_eq_false', Bool.not_eq_true, Bool.not_eq_false, List.length_map] at h) <;> conv => whnf)
  · refine ⟨_, _, sizeDrive_c w.array.drives, (by repeat' (first | exact lends_nil | exact lend_dead | apply lends_cons | apply lend_agg | apply lend_one | exact all2_nil | apply all2_cons | exact la_lit rfl | exact la_int (by first | rfl | omega) | exact la_row rfl rfl | exact la_loc rfl rfl rfl (by first | rfl | simp [mkL_length]) (by first | rfl | simp) | exact la_nil rfl | apply la_fn rfl | exact lend_same rfl rfl | exact lend_bor rfl rfl)), ?_⟩; (conv => whnf)
    refine ⟨_, _, atWorkImpl_c c hc w.array.drives.length (by omega), (by repeat' (first | exact lends_nil | exact lend_dead | apply lends_cons | apply lend_agg | apply lend_one | exact all2_nil | apply all2_cons | exact la_lit rfl | exact la_int (by first | rfl | omega) | exact la_row rfl rfl | exact la_loc rfl rfl rfl (by first | rfl | simp [mkL_length]) (by first | rfl | simp) | exact la_nil rfl | apply la_fn rfl | exact lend_same rfl rfl | exact lend_bor rfl rfl)), ?_⟩; (conv => whnf)
    exact ⟨close_bool (by rw [h]; rfl), trivial⟩
  · exact ⟨close_bool (by rw [h]; rfl), trivial⟩
def worldOk (w : DWorld) : Bool := arrayOk w.array && cutOk w.cutting && wi w.now 0 1000000000 && wi w.clients.length 1 4 && w.clients.all fun c => idleOk c || atWork w.array.drives.length c
theorem worldImpl_c (w : DWorld) (hw : w.ok) (hu : ∀ d ∈ w.array.drives, usedN d.files ≤ 1000000000000) : Fun1 Try.prog 44 [.agg w.enc] (.one (.lit (.bool (worldOk w)))) := by
  obtain ⟨ha, hcut, hnow, hcl, hc⟩ := hw
  refine fun1_of_vc tb_ok mix (fn := Try.f44) Try.func44 rfl (by kernel_rfl) (by kernel_rfl) (by simp [Try.f44]) (by rfl) ?_
  (conv => whnf)
  refine ⟨_, _, arrayImpl_c w.array ha hu, (by repeat' (first | exact lends_nil | exact lend_dead | apply lends_cons | apply lend_agg | apply lend_one | exact all2_nil | apply all2_cons | exact la_lit rfl | exact la_int (by first | rfl | omega) | exact la_row rfl rfl | exact la_loc rfl rfl rfl (by first | rfl | simp [mkL_length]) (by first | rfl | simp) | exact la_nil rfl | apply la_fn rfl | exact lend_same rfl rfl | exact lend_bor rfl rfl)), ?_⟩; (conv => whnf)
  (split <;> rename_i h1 <;> (try simp only [decide_eq_true_eq, decide_eq_false_iff_not, Bool.not_eq_true', Bool.not_eq_false', Bool.not_eq_true, Bool.not_eq_false, List.length_map] at h1) <;> conv => whnf)
  case h_2 => exact ⟨close_bool (by simp only [worldOk, h1, Bool.false_and]), trivial⟩
  refine ⟨_, _, cutImpl_c w.cutting, (by repeat' (first | exact lends_nil | exact lend_dead | apply lends_cons | apply lend_agg | apply lend_one | exact all2_nil | apply all2_cons | exact la_lit rfl | exact la_int (by first | rfl | omega) | exact la_row rfl rfl | exact la_loc rfl rfl rfl (by first | rfl | simp [mkL_length]) (by first | rfl | simp) | exact la_nil rfl | apply la_fn rfl | exact lend_same rfl rfl | exact lend_bor rfl rfl)), ?_⟩; (conv => whnf)
  (split <;> rename_i h2 <;> (try simp only [decide_eq_true_eq, decide_eq_false_iff_not, Bool.not_eq_true', Bool.not_eq_false', Bool.not_eq_true, Bool.not_eq_false, List.length_map] at h2) <;> conv => whnf)
  case h_2 => exact ⟨close_bool (by simp only [worldOk, h1, h2, Bool.true_and, Bool.false_and]), trivial⟩
  refine ⟨_, _, within_w w.now 0 1000000000, (by repeat' (first | exact lends_nil | exact lend_dead | apply lends_cons | apply lend_agg | apply lend_one | exact all2_nil | apply all2_cons | exact la_lit rfl | exact la_int (by first | rfl | omega) | exact la_row rfl rfl | exact la_loc rfl rfl rfl (by first | rfl | simp [mkL_length]) (by first | rfl | simp) | exact la_nil rfl | apply la_fn rfl | exact lend_same rfl rfl | exact lend_bor rfl rfl)), ?_⟩; (conv => whnf)
  (split <;> rename_i h3 <;> (try simp only [decide_eq_true_eq, decide_eq_false_iff_not, Bool.not_eq_true', Bool.not_eq_false', Bool.not_eq_true, Bool.not_eq_false, List.length_map] at h3) <;> conv => whnf)
  case h_2 => exact ⟨close_bool (by simp only [worldOk, h1, h2, h3, Bool.true_and, Bool.false_and]), trivial⟩
  refine ⟨_, _, sizeClient_c w.clients, (by repeat' (first | exact lends_nil | exact lend_dead | apply lends_cons | apply lend_agg | apply lend_one | exact all2_nil | apply all2_cons | exact la_lit rfl | exact la_int (by first | rfl | omega) | exact la_row rfl rfl | exact la_loc rfl rfl rfl (by first | rfl | simp [mkL_length]) (by first | rfl | simp) | exact la_nil rfl | apply la_fn rfl | exact lend_same rfl rfl | exact lend_bor rfl rfl)), ?_⟩; (conv => whnf)
  refine ⟨_, _, within_w w.clients.length 1 4, (by repeat' (first | exact lends_nil | exact lend_dead | apply lends_cons | apply lend_agg | apply lend_one | exact all2_nil | apply all2_cons | exact la_lit rfl | exact la_int (by first | rfl | omega) | exact la_row rfl rfl | exact la_loc rfl rfl rfl (by first | rfl | simp [mkL_length]) (by first | rfl | simp) | exact la_nil rfl | apply la_fn rfl | exact lend_same rfl rfl | exact lend_bor rfl rfl)), ?_⟩; (conv => whnf)
  (split <;> rename_i h4 <;> (try simp only [decide_eq_true_eq, decide_eq_false_iff_not, Bool.not_eq_true', Bool.not_eq_false', Bool.not_eq_true, Bool.not_eq_false, List.length_map] at h4) <;> conv => whnf)
  case h_2 => exact ⟨close_bool (by simp only [worldOk, h1, h2, h3, h4, Bool.true_and, Bool.false_and]), trivial⟩
  refine ⟨_, _, containsClient_c w.clients 136 w.enc rfl (fun c => !idleOk c && !atWork w.array.drives.length c) hcl (fun c hm => world1_c w ha.2.2.1 c (hc c hm)), lends_cons (lend_one (la_row rfl rfl)) (lends_cons (lend_one (la_fn rfl (all2_cons (la_ptr rfl rfl rfl (all2_cell (xs := w.enc) rfl)) all2_nil))) lends_nil), ?_⟩; (conv => whnf)
  exact ⟨close_bool (by rw [any_notc]; simp only [worldOk, h1, h2, h3, h4, Bool.true_and]), trivial⟩
theorem worldSpec_c (w : DWorld) (hw : w.ok) (hu : ∀ d ∈ w.array.drives, usedN d.files ≤ 1000000000000) : Fun1 Try.prog 42 [.agg w.enc] (.one (.lit (.bool (worldOk w)))) := by
  obtain ⟨ha, hcut, hnow, hcl, hc⟩ := hw
  refine fun1_of_vc tb_ok mix (fn := Try.f42) Try.func42 rfl (by kernel_rfl) (by kernel_rfl) (by simp [Try.f42]) (by rfl) ?_
  (conv => whnf)
  refine ⟨_, _, arraySpec_c w.array ha hu, (by repeat' (first | exact lends_nil | exact lend_dead | apply lends_cons | apply lend_agg | apply lend_one | exact all2_nil | apply all2_cons | exact la_lit rfl | exact la_int (by first | rfl | omega) | exact la_row rfl rfl | exact la_loc rfl rfl rfl (by first | rfl | simp [mkL_length]) (by first | rfl | simp) | exact la_nil rfl | apply la_fn rfl | exact lend_same rfl rfl | exact lend_bor rfl rfl)), ?_⟩; (conv => whnf)
  (split <;> rename_i h1 <;> (try simp only [decide_eq_true_eq, decide_eq_false_iff_not, Bool.not_eq_true', Bool.not_eq_false', Bool.not_eq_true, Bool.not_eq_false, List.length_map] at h1) <;> conv => whnf)
  · exact ⟨close_bool (by simp only [worldOk, h1, Bool.false_and]), trivial⟩
  refine ⟨_, _, cutSpec_c w.cutting, (by repeat' (first | exact lends_nil | exact lend_dead | apply lends_cons | apply lend_agg | apply lend_one | exact all2_nil | apply all2_cons | exact la_lit rfl | exact la_int (by first | rfl | omega) | exact la_row rfl rfl | exact la_loc rfl rfl rfl (by first | rfl | simp [mkL_length]) (by first | rfl | simp) | exact la_nil rfl | apply la_fn rfl | exact lend_same rfl rfl | exact lend_bor rfl rfl)), ?_⟩; (conv => whnf)
  (split <;> rename_i h2 <;> (try simp only [decide_eq_true_eq, decide_eq_false_iff_not, Bool.not_eq_true', Bool.not_eq_false', Bool.not_eq_true, Bool.not_eq_false, List.length_map] at h2) <;> conv => whnf)
  · exact ⟨close_bool (by simp only [worldOk, h1, h2, Bool.true_and, Bool.false_and]), trivial⟩
  (split <;> rename_i h3 <;> (try simp only [decide_eq_true_eq, decide_eq_false_iff_not, Bool.not_eq_true', Bool.not_eq_false', Bool.not_eq_true, Bool.not_eq_false, List.length_map] at h3) <;> conv => whnf)
  · exact ⟨close_bool (by simp [worldOk, wi]; omega), trivial⟩
  (split <;> rename_i h4 <;> (try simp only [decide_eq_true_eq, decide_eq_false_iff_not, Bool.not_eq_true', Bool.not_eq_false', Bool.not_eq_true, Bool.not_eq_false, List.length_map] at h4) <;> conv => whnf)
  · exact ⟨close_bool (by simp [worldOk, wi]; omega), trivial⟩
  (split <;> rename_i h5 <;> (try simp only [decide_eq_true_eq, decide_eq_false_iff_not, Bool.not_eq_true', Bool.not_eq_false', Bool.not_eq_true, Bool.not_eq_false, List.length_map] at h5) <;> conv => whnf)
  · exact ⟨close_bool (by simp [worldOk, wi]; omega), trivial⟩
  (split <;> rename_i h6 <;> (try simp only [decide_eq_true_eq, decide_eq_false_iff_not, Bool.not_eq_true', Bool.not_eq_false', Bool.not_eq_true, Bool.not_eq_false, List.length_map] at h6) <;> conv => whnf)
  · exact ⟨close_bool (by simp [worldOk, wi]; omega), trivial⟩
  have hfin : worldOk w = w.clients.all fun c => idleOk c || atWork w.array.drives.length c := by
    have h7 : wi w.now 0 1000000000 = true := by simp [wi]; omega
    have h8 : wi w.clients.length 1 4 = true := by simp [wi]; omega
    simp only [worldOk, h1, h2, h7, h8, Bool.true_and]
  rw [hfin]
  refine ⟨LG (fun i : Nat => i ≤ w.clients.length ∧ ∀ j (h : j < w.clients.length), j < i → (idleOk w.clients[j] || atWork w.array.drives.length w.clients[j]) = true) (fun i => w.clients.length - i) (fun i => AS.of [(1, .one (.ptr 16 0)), (3, .one (.lit (.int .i64 (i : Nat))))] [(16, .var w.enc)]), lg_init 0 ⟨by omega, fun j h h' => by omega⟩ (weak_of (by repeat (first | refine all_cons (by first | rfl | exact eq_int rfl (by first | rfl | omega | (simp; done) | (simp; omega)) | exact eq_loc rfl (by first | rfl | omega | (simp; done) | (simp; omega)) | exact eq_bool rfl (by simp_all)) ?_ | exact all_nil)) (by repeat (first | refine all_cons (by first | rfl | exact eq_int rfl (by first | rfl | omega | (simp; done) | (simp; omega)) | exact eq_loc rfl (by first | rfl | omega | (simp; done) | (simp; omega)) | exact eq_bool rfl (by simp_all)) ?_ | exact all_nil)) rfl rfl), ?_⟩
  rintro σ k ⟨i, ⟨hi, hcc⟩, rfl, rfl⟩
  refine ⟨_, Weak.refl _, ?_⟩
  (conv => whnf)
  (split <;> rename_i h <;> (try simp only [decide_eq_true_eq, decide_eq_false_iff_not, Bool.not_eq_true', Bool.not_eq_false', Bool.not_eq_true, Bool.not_eq_false, List.length_map] at h) <;> conv => whnf)
  · have hlt : i < w.clients.length := by omega
    refine ⟨i, rfl, _, at_map hlt, ?_⟩; (conv => whnf)
    refine ⟨_, _, l16Client_c w.array w.clients[i] (hc _ (List.getElem_mem hlt)) ha.2.2.1, (by repeat' (first | exact lends_nil | exact lend_dead | apply lends_cons | apply lend_agg | apply lend_one | exact all2_nil | apply all2_cons | exact la_lit rfl | exact la_int (by first | rfl | omega) | exact la_row rfl rfl | exact la_loc rfl rfl rfl (by first | rfl | simp [mkL_length]) (by first | rfl | simp) | exact la_nil rfl | apply la_fn rfl | exact lend_same rfl rfl | exact lend_bor rfl rfl)), ?_⟩; (conv => whnf)
    (split <;> rename_i h9 <;> (try simp only [decide_eq_true_eq, decide_eq_false_iff_not, Bool.not_eq_true', Bool.not_eq_false', Bool.not_eq_true, Bool.not_eq_false, List.length_map] at h9) <;> conv => whnf)
    · exact ⟨close_bool (by rw [List.all_eq_false]; exact ⟨_, List.getElem_mem hlt, by rw [h9]; simp⟩), trivial⟩
    · (refine ⟨((i + 1 : Nat) : Int), by rw [← wrap64_id] <;> omega, ?_⟩; conv => whnf)
      exact lg_back (i + 1) ⟨by omega, fun j hj hji => by
        by_cases e : j = i
        · subst e; exact h9
        · exact hcc j hj (by omega)⟩ (by (try dsimp only); omega) (weak_of (by repeat (first | refine all_cons (by first | rfl | exact eq_int rfl (by first | rfl | omega | (simp; done) | (simp; omega)) | exact eq_loc rfl (by first | rfl | omega | (simp; done) | (simp; omega)) | exact eq_bool rfl (by simp_all)) ?_ | exact all_nil)) (by repeat (first | refine all_cons (by first | rfl | exact eq_int rfl (by first | rfl | omega | (simp; done) | (simp; omega)) | exact eq_loc rfl (by first | rfl | omega | (simp; done) | (simp; omega)) | exact eq_bool rfl (by simp_all)) ?_ | exact all_nil)) rfl rfl)
  · exact ⟨close_bool (by
      rw [List.all_eq_true]; intro c hm
      obtain ⟨j, hj, rfl⟩ := List.getElem_of_mem hm
      exact hcc j hj (by omega)), trivial⟩
end Go.Proofs.Ytlijeincckbdaaa
namespace Go.Proofs.Ytlijeincckbdaaa
open Go.RowKit
set_option linter.unusedSimpArgs false
set_option linter.unusedVariables false
set_option maxRecDepth 100000
set_option maxHeartbeats 8000000
theorem idle_iff {w : DWorld} (hw : worldOk w = true) {c : DClient} (hc : c ∈ w.clients) : c.cmd = 0 ↔ idleOk c = true := by
  simp only [worldOk, Bool.and_eq_true, List.all_eq_true, Bool.or_eq_true] at hw
  constructor
  · intro h
    rcases hw.2 c hc with h1 | h1
    · exact h1
    · simp [atWork, wi, h] at h1
  · intro h; simp only [idleOk, Bool.and_eq_true, decide_eq_true_eq] at h; exact h.1.1.1.1
def busyN (w : DWorld) : Nat := if worldOk w = true then w.clients.countP fun c => !idleOk c else 0
theorem countP_take_succ {α : Type} {p : α → Bool} {l : List α} {i : Nat} (h : i < l.length) : (l.take (i + 1)).countP p = (l.take i).countP p + (if p l[i] = true then 1 else 0) := by
  rw [List.take_succ_eq_append_getElem h, List.countP_append, List.countP_singleton]
theorem countP_take_le {α : Type} {p : α → Bool} {l : List α} {i : Nat} : (l.take i).countP p ≤ l.length := Nat.le_trans List.countP_le_length (by rw [List.length_take]; omega)
theorem busyImpl_c (w : DWorld) (hw : w.ok) (hu : ∀ d ∈ w.array.drives, usedN d.files ≤ 1000000000000) : Fun1 Try.prog 47 [.agg w.enc] (.one (.lit (.int .i64 (busyN w : Nat)))) := by
  have hw' := hw
  obtain ⟨ha, hcut, hnow, hcl, hc⟩ := hw
  refine fun1_of_vc tb_ok mix (fn := Try.f47) Try.func47 rfl (by kernel_rfl) (by kernel_rfl) (by simp [Try.f47]) (by rfl) ?_
  (conv => whnf)
  refine ⟨_, _, worldImpl_c w hw' hu, (by repeat' (first | exact lends_nil | exact lend_dead | apply lends_cons | apply lend_agg | apply lend_one | exact all2_nil | apply all2_cons | exact la_lit rfl | exact la_int (by first | rfl | omega) | exact la_row rfl rfl | exact la_loc rfl rfl rfl (by first | rfl | simp [mkL_length]) (by first | rfl | simp) | exact la_nil rfl | apply la_fn rfl | exact lend_same rfl rfl | exact lend_bor rfl rfl)), ?_⟩; (conv => whnf)
  (split <;> rename_i h1 <;> (try simp only [decide_eq_true_eq, decide_eq_false_iff_not, Bool.not_eq_true', Bool.not_eq_false', Bool.not_eq_true, Bool.not_eq_false, List.length_map] at h1) <;> conv => whnf)
  · exact ⟨close_int (by simp [busyN, h1]), trivial⟩
  refine ⟨LG (fun i : Nat => i ≤ w.clients.length) (fun i => w.clients.length - i) (fun i => AS.of [(3, .one (.lit (.int .i64 ((w.clients.take i).countP (fun c => !idleOk c) : Nat)))), (10, .one (.row false 5 (w.clients.map DClient.enc))), (11, .one (.lit (.int .i64 (w.clients.length : Nat)))), (12, .one (.lit (.int .i64 (i : Nat))))] []), lg_init 0 (by omega) (weak_of (by repeat (first | refine all_cons (by first | rfl | exact eq_int rfl (by first | rfl | omega | (simp; done) | (simp; omega)) | exact eq_loc rfl (by first | rfl | omega | (simp; done) | (simp; omega)) | exact eq_bool rfl (by simp_all)) ?_ | exact all_nil)) (by repeat (first | refine all_cons (by first | rfl | exact eq_int rfl (by first | rfl | omega | (simp; done) | (simp; omega)) | exact eq_loc rfl (by first | rfl | omega | (simp; done) | (simp; omega)) | exact eq_bool rfl (by simp_all)) ?_ | exact all_nil)) rfl rfl), ?_⟩
  rintro σ k ⟨i, hi, rfl, rfl⟩
  refine ⟨_, Weak.refl _, ?_⟩
  (conv => whnf)
  (split <;> rename_i h <;> (try simp only [decide_eq_true_eq, decide_eq_false_iff_not, Bool.not_eq_true', Bool.not_eq_false', Bool.not_eq_true, Bool.not_eq_false, List.length_map] at h) <;> conv => whnf)
  · have hlt : i < w.clients.length := by omega
    have hts := countP_take_succ (p := fun c => !idleOk c) hlt
    have hle := countP_take_le (p := fun c => !idleOk c) (l := w.clients) (i := i)
    refine ⟨i, rfl, _, at_map hlt, ?_⟩; (conv => whnf)
    refine ⟨_, _, idleImpl_c w.clients[i], (by repeat' (first | exact lends_nil | exact lend_dead | apply lends_cons | apply lend_agg | apply lend_one | exact all2_nil | apply all2_cons | exact la_lit rfl | exact la_int (by first | rfl | omega) | exact la_row rfl rfl | exact la_loc rfl rfl rfl (by first | rfl | simp [mkL_length]) (by first | rfl | simp) | exact la_nil rfl | apply la_fn rfl | exact lend_same rfl rfl | exact lend_bor rfl rfl)), ?_⟩; (conv => whnf)
    (split <;> rename_i h2 <;> (try simp only [decide_eq_true_eq, decide_eq_false_iff_not, Bool.not_eq_true', Bool.not_eq_false', Bool.not_eq_true, Bool.not_eq_false, List.length_map] at h2) <;> conv => whnf)
    · rw [if_pos (by simp [h2])] at hts
      refine ⟨(((w.clients.take i).countP (fun c => !idleOk c) + 1 : Nat) : Int), by rw [← wrap64_id] <;> omega, ?_⟩; (conv => whnf)
      (refine ⟨((i + 1 : Nat) : Int), by rw [← wrap64_id] <;> omega, ?_⟩; conv => whnf)
      exact lg_back (i + 1) (by omega) (by (try dsimp only); omega) (weak_of (all_cons (eq_int rfl (by rw [hts])) (all_cons rfl (all_cons rfl (all_cons rfl all_nil)))) all_nil rfl rfl)
    · rw [if_neg (by simp [h2])] at hts
      (refine ⟨((i + 1 : Nat) : Int), by rw [← wrap64_id] <;> omega, ?_⟩; conv => whnf)
      exact lg_back (i + 1) (by omega) (by (try dsimp only); omega) (weak_of (all_cons (eq_int rfl (by rw [hts]; rfl)) (all_cons rfl (all_cons rfl (all_cons rfl all_nil)))) all_nil rfl rfl)
  · have : i = w.clients.length := by omega
    subst this
    exact ⟨close_int (by rw [busyN, if_pos h1, List.take_length]), trivial⟩
theorem busySpec_c (w : DWorld) (hw : w.ok) (hu : ∀ d ∈ w.array.drives, usedN d.files ≤ 1000000000000) : Fun1 Try.prog 46 [.agg w.enc] (.one (.lit (.int .i64 (busyN w : Nat)))) := by
  have hw' := hw
  obtain ⟨ha, hcut, hnow, hcl, hc⟩ := hw
  refine fun1_of_vc tb_ok mix (fn := Try.f46) Try.func46 rfl (by kernel_rfl) (by kernel_rfl) (by simp [Try.f46]) (by rfl) ?_
  (conv => whnf)
  refine ⟨LG (fun i : Nat => i ≤ w.clients.length ∧ (i = 0 ∨ worldOk w = true)) (fun i => w.clients.length - i) (fun i => AS.of [(1, .one (.ptr 16 0)), (3, .one (.lit (.int .i64 ((w.clients.take i).countP (fun c => !idleOk c) : Nat)))), (4, .one (.lit (.int .i64 (i : Nat))))] [(16, .var w.enc)]), lg_init 0 ⟨by omega, .inl rfl⟩ (weak_of (by repeat (first | refine all_cons (by first | rfl | exact eq_int rfl (by first | rfl | omega | (simp; done) | (simp; omega)) | exact eq_loc rfl (by first | rfl | omega | (simp; done) | (simp; omega)) | exact eq_bool rfl (by simp_all)) ?_ | exact all_nil)) (by repeat (first | refine all_cons (by first | rfl | exact eq_int rfl (by first | rfl | omega | (simp; done) | (simp; omega)) | exact eq_loc rfl (by first | rfl | omega | (simp; done) | (simp; omega)) | exact eq_bool rfl (by simp_all)) ?_ | exact all_nil)) rfl rfl), ?_⟩
  rintro σ k ⟨i, ⟨hi, hok⟩, rfl, rfl⟩
  refine ⟨_, Weak.refl _, ?_⟩
  (conv => whnf)
  (split <;> rename_i h <;> (try simp only [decide_eq_true_eq, decide_eq_false_iff_not, Bool.not_eq_true', Bool.not_eq_false', Bool.not_eq_true, Bool.not_eq_false, List.length_map] at h) <;> conv => whnf)
  · have hlt : i < w.clients.length := by omega
    have hts := countP_take_succ (p := fun c => !idleOk c) hlt
    have hle := countP_take_le (p := fun c => !idleOk c) (l := w.clients) (i := i)
    refine ⟨_, _, worldSpec_c w hw' hu, (by repeat' (first | exact lends_nil | exact lend_dead | apply lends_cons | apply lend_agg | apply lend_one | exact all2_nil | apply all2_cons | exact la_lit rfl | exact la_int (by first | rfl | omega) | exact la_row rfl rfl | exact la_loc rfl rfl rfl (by first | rfl | simp [mkL_length]) (by first | rfl | simp) | exact la_nil rfl | apply la_fn rfl | exact lend_same rfl rfl | exact lend_bor rfl rfl)), ?_⟩; (conv => whnf)
    (split <;> rename_i h1 <;> (try simp only [decide_eq_true_eq, decide_eq_false_iff_not, Bool.not_eq_true', Bool.not_eq_false', Bool.not_eq_true, Bool.not_eq_false, List.length_map] at h1) <;> conv => whnf)
    · refine ⟨i, rfl, _, at_map hlt, ?_⟩; (conv => whnf)
      have hid := idle_iff h1 (List.getElem_mem hlt)
      (split <;> rename_i h2 <;> (try simp only [decide_eq_true_eq, decide_eq_false_iff_not, Bool.not_eq_true', Bool.not_eq_false', Bool.not_eq_true, Bool.not_eq_false, List.length_map] at h2) <;> conv => whnf)
      · rw [if_pos (by cases hq : idleOk w.clients[i] with | false => rfl | true => exact absurd (hid.2 hq) h2)] at hts
        refine ⟨(((w.clients.take i).countP (fun c => !idleOk c) + 1 : Nat) : Int), by rw [← wrap64_id] <;> omega, ?_⟩; (conv => whnf)
        (refine ⟨((i + 1 : Nat) : Int), by rw [← wrap64_id] <;> omega, ?_⟩; conv => whnf)
        exact lg_back (i + 1) ⟨by omega, .inr h1⟩ (by (try dsimp only); omega) (weak_of (all_cons rfl (all_cons (eq_int rfl (by rw [hts])) (all_cons rfl all_nil))) (all_cons rfl all_nil) rfl rfl)
      · rw [if_neg (by rw [hid.1 h2]; simp)] at hts
        (refine ⟨((i + 1 : Nat) : Int), by rw [← wrap64_id] <;> omega, ?_⟩; conv => whnf)
        exact lg_back (i + 1) ⟨by omega, .inr h1⟩ (by (try dsimp only); omega) (weak_of (all_cons rfl (all_cons (eq_int rfl (by rw [hts]; rfl)) (all_cons rfl all_nil))) (all_cons rfl all_nil) rfl rfl)
    · rcases hok with rfl | hok
      · exact ⟨close_int (by simp [busyN, h1]), trivial⟩
      · rw [h1] at hok; cases hok
  · have : i = w.clients.length := by omega
    subst this
    refine ⟨close_int ?_, trivial⟩
    rw [List.take_length, busyN]
    split
    · rfl
    · rename_i hn
      rcases hok with h0 | hok
      · rw [List.eq_nil_of_length_eq_zero h0]; rfl
      · exact absurd hok hn
/-- A client's lock stands in the way. -/
def lk (w : DWorld) (client cmd : Int) (i : Nat) (c : DClient) : Bool := decide (¬ (i : Int) = client) && !idleOk c && decide (w.now < c.until_) && (decide (¬ c.cmd = 1) || decide (¬ cmd = 1))
def lkAt (w : DWorld) (client cmd : Int) (i : Nat) : Bool := match w.clients[i]? with
  | some c => lk w client cmd i c
  | none => false
def lockN (w : DWorld) (client cmd : Int) : Bool := (List.range w.clients.length).any (lkAt w client cmd)
theorem lkAt_eq {w : DWorld} {client cmd : Int} {i : Nat} (h : i < w.clients.length) : lkAt w client cmd i = lk w client cmd i w.clients[i] := by rw [lkAt, List.getElem?_eq_getElem h]
theorem lock_t {w : DWorld} {client cmd : Int} {i : Nat} (h : i < w.clients.length) (hl : lk w client cmd i w.clients[i] = true) : lockN w client cmd = true := by
  rw [lockN, List.any_eq_true]; exact ⟨i, List.mem_range.2 h, by rw [lkAt_eq h]; exact hl⟩
theorem lock_f {w : DWorld} {client cmd : Int} (h : ∀ j (h : j < w.clients.length), lk w client cmd j w.clients[j] = false) : lockN w client cmd = false := by
  rw [lockN, List.any_eq_false]; intro i hi; rw [lkAt_eq (List.mem_range.1 hi), h i (List.mem_range.1 hi)]; simp
theorem holds_c (w : DWorld) (c : DClient) : Fun1 Try.prog 204 [.one (.bptr w.enc 0), .agg c.enc] (.one (.lit (.bool (!idleOk c && decide (w.now < c.until_))))) := by
  refine fun1_of_vc tb_ok mix (fn := Try.f204) Try.func204 rfl (by kernel_rfl) (by kernel_rfl) (by simp [Try.f204]) (by rfl) ?_
  (conv => whnf)
  refine ⟨_, _, idleImpl_c c, (by repeat' (first | exact lends_nil | exact lend_dead | apply lends_cons | apply lend_agg | apply lend_one | exact all2_nil | apply all2_cons | exact la_lit rfl | exact la_int (by first | rfl | omega) | exact la_row rfl rfl | exact la_loc rfl rfl rfl (by first | rfl | simp [mkL_length]) (by first | rfl | simp) | exact la_nil rfl | apply la_fn rfl | exact lend_same rfl rfl | exact lend_bor rfl rfl)), ?_⟩; (conv => whnf)
  (split <;> rename_i h <;> (try simp only [decide_eq_true_eq, decide_eq_false_iff_not, Bool.not_eq_true', Bool.not_eq_false', Bool.not_eq_true, Bool.not_eq_false, List.length_map] at h) <;> conv => whnf)
  · exact ⟨close_bool (by rw [h]; rfl), trivial⟩
  · exact ⟨close_bool (by rw [h]; rfl), trivial⟩
theorem isLocked_c (w : DWorld) (hcl : w.clients.length ≤ 4294967296) (client cmd : Int) : Fun1 Try.prog 147 [.one (.bptr w.enc 0), .one (.lit (.int .i64 client)), .one (.lit (.int .i64 cmd))] (.one (.lit (.bool (lockN w client cmd)))) := by
  refine fun1_of_vc tb_ok mix (fn := Try.f147) Try.func147 rfl (by kernel_rfl) (by kernel_rfl) (by simp [Try.f147]) (by rfl) ?_
  (conv => whnf)
  refine ⟨LG (fun i : Nat => i ≤ w.clients.length ∧ ∀ j (h : j < w.clients.length), j < i → lk w client cmd j w.clients[j] = false) (fun i => w.clients.length - i) (fun i => AS.of [(0, .one (.bptr w.enc 0)), (1, .one (.lit (.int .i64 client))), (2, .one (.lit (.int .i64 cmd))), (12, .one (.row false 5 (w.clients.map DClient.enc))), (13, .one (.lit (.int .i64 (w.clients.length : Nat)))), (14, .one (.lit (.int .i64 (i : Nat))))] []), lg_init 0 ⟨by omega, fun j h h' => by omega⟩ (weak_of (by repeat (first | refine all_cons (by first | rfl | exact eq_int rfl (by first | rfl | omega | (simp; done) | (simp; omega)) | exact eq_loc rfl (by first | rfl | omega | (simp; done) | (simp; omega)) | exact eq_bool rfl (by simp_all)) ?_ | exact all_nil)) (by repeat (first | refine all_cons (by first | rfl | exact eq_int rfl (by first | rfl | omega | (simp; done) | (simp; omega)) | exact eq_loc rfl (by first | rfl | omega | (simp; done) | (simp; omega)) | exact eq_bool rfl (by simp_all)) ?_ | exact all_nil)) rfl rfl), ?_⟩
  rintro σ k ⟨i, ⟨hi, hcc⟩, rfl, rfl⟩
  refine ⟨_, Weak.refl _, ?_⟩
  (conv => whnf)
  (split <;> rename_i h <;> (try simp only [decide_eq_true_eq, decide_eq_false_iff_not, Bool.not_eq_true', Bool.not_eq_false', Bool.not_eq_true, Bool.not_eq_false, List.length_map] at h) <;> conv => whnf)
  · have hlt : i < w.clients.length := by omega
    have hnext : lk w client cmd i w.clients[i] = false → ∀ j (h : j < w.clients.length), j < i + 1 → lk w client cmd j w.clients[j] = false := fun hf j hj hji => by
      by_cases e : j = i
      · subst e; exact hf
      · exact hcc j hj (by omega)
    refine ⟨i, rfl, _, at_map hlt, ?_⟩; (conv => whnf)
    (split <;> rename_i h1 <;> (try simp only [decide_eq_true_eq, decide_eq_false_iff_not, Bool.not_eq_true', Bool.not_eq_false', Bool.not_eq_true, Bool.not_eq_false, List.length_map] at h1) <;> conv => whnf)
    · refine ⟨_, _, holds_c w w.clients[i], lends_cons (lend_one (la_bptr rfl rfl)) (lends_cons (lend_bor rfl rfl) lends_nil), ?_⟩; (conv => whnf)
      (split <;> rename_i h2 <;> (try simp only [decide_eq_true_eq, decide_eq_false_iff_not, Bool.not_eq_true', Bool.not_eq_false', Bool.not_eq_true, Bool.not_eq_false, List.length_map] at h2) <;> conv => whnf)
      · simp only [Bool.and_eq_true, Bool.not_eq_true', decide_eq_true_eq] at h2
        (split <;> rename_i h3 <;> (try simp only [decide_eq_true_eq, decide_eq_false_iff_not, Bool.not_eq_true', Bool.not_eq_false', Bool.not_eq_true, Bool.not_eq_false, List.length_map] at h3) <;> conv => whnf)
        · exact ⟨close_bool (lock_t hlt (by simp [lk, h1, h2, h3])), trivial⟩
        · (split <;> rename_i h4 <;> (try simp only [decide_eq_true_eq, decide_eq_false_iff_not, Bool.not_eq_true', Bool.not_eq_false', Bool.not_eq_true, Bool.not_eq_false, List.length_map] at h4) <;> conv => whnf)
          · exact ⟨close_bool (lock_t hlt (by simp [lk, h1, h2, h4])), trivial⟩
          · (refine ⟨((i + 1 : Nat) : Int), by rw [← wrap64_id] <;> omega, ?_⟩; conv => whnf)
            exact lg_back (i + 1) ⟨by omega, hnext (by simp [lk, h3, h4])⟩ (by (try dsimp only); omega) (weak_of (by repeat (first | refine all_cons (by first | rfl | exact eq_int rfl (by first | rfl | omega | (simp; done) | (simp; omega)) | exact eq_loc rfl (by first | rfl | omega | (simp; done) | (simp; omega)) | exact eq_bool rfl (by simp_all)) ?_ | exact all_nil)) (by repeat (first | refine all_cons (by first | rfl | exact eq_int rfl (by first | rfl | omega | (simp; done) | (simp; omega)) | exact eq_loc rfl (by first | rfl | omega | (simp; done) | (simp; omega)) | exact eq_bool rfl (by simp_all)) ?_ | exact all_nil)) rfl rfl)
      · (refine ⟨((i + 1 : Nat) : Int), by rw [← wrap64_id] <;> omega, ?_⟩; conv => whnf)
        exact lg_back (i + 1) ⟨by omega, hnext (by rw [lk, Bool.and_assoc (decide _), h2]; simp)⟩ (by (try dsimp only); omega) (weak_of (by repeat (first | refine all_cons (by first | rfl | exact eq_int rfl (by first | rfl | omega | (simp; done) | (simp; omega)) | exact eq_loc rfl (by first | rfl | omega | (simp; done) | (simp; omega)) | exact eq_bool rfl (by simp_all)) ?_ | exact all_nil)) (by repeat (first | refine all_cons (by first | rfl | exact eq_int rfl (by first | rfl | omega | (simp; done) | (simp; omega)) | exact eq_loc rfl (by first | rfl | omega | (simp; done) | (simp; omega)) | exact eq_bool rfl (by simp_all)) ?_ | exact all_nil)) rfl rfl)
    · (refine ⟨((i + 1 : Nat) : Int), by rw [← wrap64_id] <;> omega, ?_⟩; conv => whnf)
      exact lg_back (i + 1) ⟨by omega, hnext (by simp [lk, h1])⟩ (by (try dsimp only); omega) (weak_of (by repeat (first | refine all_cons (by first | rfl | exact eq_int rfl (by first | rfl | omega | (simp; done) | (simp; omega)) | exact eq_loc rfl (by first | rfl | omega | (simp; done) | (simp; omega)) | exact eq_bool rfl (by simp_all)) ?_ | exact all_nil)) (by repeat (first | refine all_cons (by first | rfl | exact eq_int rfl (by first | rfl | omega | (simp; done) | (simp; omega)) | exact eq_loc rfl (by first | rfl | omega | (simp; done) | (simp; omega)) | exact eq_bool rfl (by simp_all)) ?_ | exact all_nil)) rfl rfl)
  · exact ⟨close_bool (lock_f fun j hj => hcc j hj (by omega)), trivial⟩
theorem l16Locked_c (w : DWorld) (hw : worldOk w = true) (hcl : w.clients.length ≤ 4294967296) (client cmd : Int) : Fun1 Try.prog 144 [.agg w.enc, .one (.lit (.int .i64 client)), .one (.lit (.int .i64 cmd))] (.one (.lit (.bool (lockN w client cmd)))) := by
  refine fun1_of_vc tb_ok mix (fn := Try.f144) Try.func144 rfl (by kernel_rfl) (by kernel_rfl) (by simp [Try.f144]) (by rfl) ?_
  (conv => whnf)
  refine ⟨LG (fun i : Nat => i ≤ w.clients.length ∧ ∀ j (h : j < w.clients.length), j < i → lk w client cmd j w.clients[j] = false) (fun i => w.clients.length - i) (fun i => AS.of [(1, .one (.lit (.int .i64 client))), (2, .one (.lit (.int .i64 cmd))), (3, .one (.ptr 48 0)), (7, .one (.lit (.int .i64 (i : Nat))))] [(48, .var w.enc)]), lg_init 0 ⟨by omega, fun j h h' => by omega⟩ (weak_of (by repeat (first | refine all_cons (by first | rfl | exact eq_int rfl (by first | rfl | omega | (simp; done) | (simp; omega)) | exact eq_loc rfl (by first | rfl | omega | (simp; done) | (simp; omega)) | exact eq_bool rfl (by simp_all)) ?_ | exact all_nil)) (by repeat (first | refine all_cons (by first | rfl | exact eq_int rfl (by first | rfl | omega | (simp; done) | (simp; omega)) | exact eq_loc rfl (by first | rfl | omega | (simp; done) | (simp; omega)) | exact eq_bool rfl (by simp_all)) ?_ | exact all_nil)) rfl rfl), ?_⟩
  rintro σ k ⟨i, ⟨hi, hcc⟩, rfl, rfl⟩
  refine ⟨_, Weak.refl _, ?_⟩
  (conv => whnf)
  (split <;> rename_i h <;> (try simp only [decide_eq_true_eq, decide_eq_false_iff_not, Bool.not_eq_true', Bool.not_eq_false', Bool.not_eq_true, Bool.not_eq_false, List.length_map] at h) <;> conv => whnf)
  · have hlt : i < w.clients.length := by omega
    have hid := idle_iff hw (List.getElem_mem hlt)
    have hnext : lk w client cmd i w.clients[i] = false → ∀ j (h : j < w.clients.length), j < i + 1 → lk w client cmd j w.clients[j] = false := fun hf j hj hji => by
      by_cases e : j = i
      · subst e; exact hf
      · exact hcc j hj (by omega)
    refine ⟨i, rfl, _, at_map hlt, ?_⟩; (conv => whnf)
    (split <;> rename_i h1 <;> (try simp only [decide_eq_true_eq, decide_eq_false_iff_not, Bool.not_eq_true', Bool.not_eq_false', Bool.not_eq_true, Bool.not_eq_false, List.length_map] at h1) <;> conv => whnf)
    · (split <;> rename_i h2 <;> (try simp only [decide_eq_true_eq, decide_eq_false_iff_not, Bool.not_eq_true', Bool.not_eq_false', Bool.not_eq_true, Bool.not_eq_false, List.length_map] at h2) <;> conv => whnf)
      · have h2' : idleOk w.clients[i] = false := by cases hq : idleOk w.clients[i] with | false => rfl | true => exact absurd (hid.2 hq) h2
        (split <;> rename_i h5 <;> (try simp only [decide_eq_true_eq, decide_eq_false_iff_not, Bool.not_eq_true', Bool.not_eq_false', Bool.not_eq_true, Bool.not_eq_false, List.length_map] at h5) <;> conv => whnf)
        · (split <;> rename_i h3 <;> (try simp only [decide_eq_true_eq, decide_eq_false_iff_not, Bool.not_eq_true', Bool.not_eq_false', Bool.not_eq_true, Bool.not_eq_false, List.length_map] at h3) <;> conv => whnf)
          · exact ⟨close_bool (lock_t hlt (by simp [lk, h1, h2', h3, h5])), trivial⟩
          · (split <;> rename_i h4 <;> (try simp only [decide_eq_true_eq, decide_eq_false_iff_not, Bool.not_eq_true', Bool.not_eq_false', Bool.not_eq_true, Bool.not_eq_false, List.length_map] at h4) <;> conv => whnf)
            · exact ⟨close_bool (lock_t hlt (by simp [lk, h1, h2', h4, h5])), trivial⟩
            · (refine ⟨((i + 1 : Nat) : Int), by rw [← wrap64_id] <;> omega, ?_⟩; conv => whnf)
              exact lg_back (i + 1) ⟨by omega, hnext (by simp [lk, h3, h4])⟩ (by (try dsimp only); omega) (weak_of (by repeat (first | refine all_cons (by first | rfl | exact eq_int rfl (by first | rfl | omega | (simp; done) | (simp; omega)) | exact eq_loc rfl (by first | rfl | omega | (simp; done) | (simp; omega)) | exact eq_bool rfl (by simp_all)) ?_ | exact all_nil)) (by repeat (first | refine all_cons (by first | rfl | exact eq_int rfl (by first | rfl | omega | (simp; done) | (simp; omega)) | exact eq_loc rfl (by first | rfl | omega | (simp; done) | (simp; omega)) | exact eq_bool rfl (by simp_all)) ?_ | exact all_nil)) rfl rfl)
        · (refine ⟨((i + 1 : Nat) : Int), by rw [← wrap64_id] <;> omega, ?_⟩; conv => whnf)
          exact lg_back (i + 1) ⟨by omega, hnext (by simp [lk, h5])⟩ (by (try dsimp only); omega) (weak_of (by repeat (first | refine all_cons (by first | rfl | exact eq_int rfl (by first | rfl | omega | (simp; done) | (simp; omega)) | exact eq_loc rfl (by first | rfl | omega | (simp; done) | (simp; omega)) | exact eq_bool rfl (by simp_all)) ?_ | exact all_nil)) (by repeat (first | refine all_cons (by first | rfl | exact eq_int rfl (by first | rfl | omega | (simp; done) | (simp; omega)) | exact eq_loc rfl (by first | rfl | omega | (simp; done) | (simp; omega)) | exact eq_bool rfl (by simp_all)) ?_ | exact all_nil)) rfl rfl)
      · have h2' : idleOk w.clients[i] = true := hid.1 h2
        (refine ⟨((i + 1 : Nat) : Int), by rw [← wrap64_id] <;> omega, ?_⟩; conv => whnf)
        exact lg_back (i + 1) ⟨by omega, hnext (by simp [lk, h2'])⟩ (by (try dsimp only); omega) (weak_of (by repeat (first | refine all_cons (by first | rfl | exact eq_int rfl (by first | rfl | omega | (simp; done) | (simp; omega)) | exact eq_loc rfl (by first | rfl | omega | (simp; done) | (simp; omega)) | exact eq_bool rfl (by simp_all)) ?_ | exact all_nil)) (by repeat (first | refine all_cons (by first | rfl | exact eq_int rfl (by first | rfl | omega | (simp; done) | (simp; omega)) | exact eq_loc rfl (by first | rfl | omega | (simp; done) | (simp; omega)) | exact eq_bool rfl (by simp_all)) ?_ | exact all_nil)) rfl rfl)
    · (refine ⟨((i + 1 : Nat) : Int), by rw [← wrap64_id] <;> omega, ?_⟩; conv => whnf)
      exact lg_back (i + 1) ⟨by omega, hnext (by simp [lk, h1])⟩ (by (try dsimp only); omega) (weak_of (by repeat (first | refine all_cons (by first | rfl | exact eq_int rfl (by first | rfl | omega | (simp; done) | (simp; omega)) | exact eq_loc rfl (by first | rfl | omega | (simp; done) | (simp; omega)) | exact eq_bool rfl (by simp_all)) ?_ | exact all_nil)) (by repeat (first | refine all_cons (by first | rfl | exact eq_int rfl (by first | rfl | omega | (simp; done) | (simp; omega)) | exact eq_loc rfl (by first | rfl | omega | (simp; done) | (simp; omega)) | exact eq_bool rfl (by simp_all)) ?_ | exact all_nil)) rfl rfl)
  · exact ⟨close_bool (lock_f fun j hj => hcc j hj (by omega)), trivial⟩
theorem isClient_c (w : DWorld) (hcl : w.clients.length ≤ 4294967296) (a : Int) : Fun1 Try.prog 145 [.one (.bptr w.enc 0), .one (.lit (.int .i64 a))] (.one (.lit (.bool (wi a 0 (w.clients.length - 1))))) := by
  refine fun1_of_vc tb_ok mix (fn := Try.f145) Try.func145 rfl (by kernel_rfl) (by kernel_rfl) (by simp [Try.f145]) (by rfl) ?_
  (conv => whnf)
  refine ⟨_, _, sizeClient_c w.clients, (by repeat' (first | exact lends_nil | exact lend_dead | apply lends_cons | apply lend_agg | apply lend_one | exact all2_nil | apply all2_cons | exact la_lit rfl | exact la_int (by first | rfl | omega) | exact la_row rfl rfl | exact la_loc rfl rfl rfl (by first | rfl | simp [mkL_length]) (by first | rfl | simp) | exact la_nil rfl | apply la_fn rfl | exact lend_same rfl rfl | exact lend_bor rfl rfl)), ?_⟩; (conv => whnf)
  refine ⟨(w.clients.length : Int) - 1, wrap64_id (by omega) (by omega), ?_⟩; (conv => whnf)
  refine ⟨_, _, within_w a 0 ((w.clients.length : Int) - 1), (by repeat' (first | exact lends_nil | exact lend_dead | apply lends_cons | apply lend_agg | apply lend_one | exact all2_nil | apply all2_cons | exact la_lit rfl | exact la_int (by first | rfl | omega) | exact la_row rfl rfl | exact la_loc rfl rfl rfl (by first | rfl | simp [mkL_length]) (by first | rfl | simp) | exact la_nil rfl | apply la_fn rfl | exact lend_same rfl rfl | exact lend_bor rfl rfl)), ?_⟩; (conv => whnf)
  exact (by repeat' (first | exact trivial | exact close_int rfl | exact close_str rfl | exact close_bool rfl | exact close_int (by omega) | exact close_row rfl rfl (by first | rfl | simp) (by first | rfl | simp) | exact close_nil (by first | rfl | simp) | exact rfl | apply And.intro | apply closeTs_cons rfl))
theorem l16Is_c (w : DWorld) (a : Int) : Fun1 Try.prog 142 [.agg w.enc, .one (.lit (.int .i64 a))] (.one (.lit (.bool (wi a 0 (w.clients.length - 1))))) := by
  refine fun1_of_vc tb_ok mix (fn := Try.f142) Try.func142 rfl (by kernel_rfl) (by kernel_rfl) (by simp [Try.f142]) (by rfl) ?_
  (conv => whnf)
  (repeat' (split <;> rename_i hb <;> (try simp only [decide_eq_true_eq, decide_eq_false_iff_not, Bool.not_eq_true', Bool.not_eq_false', Bool.not_eq_true, Bool.not_eq_false, List.length_map] at hb) <;> conv => whnf))
  all_goals exact ⟨close_bool (by first | (simp [wi]; omega) | (rw [Bool.eq_iff_iff]; simp [wi]; omega)), trivial⟩
def lockedB (w : DWorld) (client cmd : Int) : Bool := worldOk w && wi client 0 (w.clients.length - 1) && wi cmd 1 4 && lockN w client cmd
theorem lockedImpl_c (w : DWorld) (hw : w.ok) (hu : ∀ d ∈ w.array.drives, usedN d.files ≤ 1000000000000) (client cmd : Int) : Fun1 Try.prog 54 [.agg w.enc, .one (.lit (.int .i64 client)), .one (.lit (.int .i64 cmd))] (.one (.lit (.bool (lockedB w client cmd)))) := by
  have hcl := hw.2.2.2.1
  refine fun1_of_vc tb_ok mix (fn := Try.f54) Try.func54 rfl (by kernel_rfl) (by kernel_rfl) (by simp [Try.f54]) (by rfl) ?_
  (conv => whnf)
  refine ⟨_, _, worldImpl_c w hw hu, (by repeat' (first | exact lends_nil | exact lend_dead | apply lends_cons | apply lend_agg | apply lend_one | exact all2_nil | apply all2_cons | exact la_lit rfl | exact la_int (by first | rfl | omega) | exact la_row rfl rfl | exact la_loc rfl rfl rfl (by first | rfl | simp [mkL_length]) (by first | rfl | simp) | exact la_nil rfl | apply la_fn rfl | exact lend_same rfl rfl | exact lend_bor rfl rfl)), ?_⟩; (conv => whnf)
  (split <;> rename_i h1 <;> (try simp only [decide_eq_true_eq, decide_eq_false_iff_not, Bool.not_eq_true', Bool.not_eq_false', Bool.not_eq_true, Bool.not_eq_false, List.length_map] at h1) <;> conv => whnf)
  case h_2 => exact ⟨close_bool (by simp only [lockedB, h1, Bool.false_and]), trivial⟩
  refine ⟨_, _, isClient_c w hcl client, lends_cons (lend_one (la_ptr rfl rfl rfl (all2_cell (xs := w.enc) rfl))) (lends_cons (lend_one (la_lit rfl)) lends_nil), ?_⟩; (conv => whnf)
  (split <;> rename_i h2 <;> (try simp only [decide_eq_true_eq, decide_eq_false_iff_not, Bool.not_eq_true', Bool.not_eq_false', Bool.not_eq_true, Bool.not_eq_false, List.length_map] at h2) <;> conv => whnf)
  case h_2 => exact ⟨close_bool (by simp only [lockedB, h1, h2, Bool.true_and, Bool.false_and]), trivial⟩
  refine ⟨_, _, isCmd_c cmd, (by repeat' (first | exact lends_nil | exact lend_dead | apply lends_cons | apply lend_agg | apply lend_one | exact all2_nil | apply all2_cons | exact la_lit rfl | exact la_int (by first | rfl | omega) | exact la_row rfl rfl | exact la_loc rfl rfl rfl (by first | rfl | simp [mkL_length]) (by first | rfl | simp) | exact la_nil rfl | apply la_fn rfl | exact lend_same rfl rfl | exact lend_bor rfl rfl)), ?_⟩; (conv => whnf)
  (split <;> rename_i h3 <;> (try simp only [decide_eq_true_eq, decide_eq_false_iff_not, Bool.not_eq_true', Bool.not_eq_false', Bool.not_eq_true, Bool.not_eq_false, List.length_map] at h3) <;> conv => whnf)
  case h_2 => exact ⟨close_bool (by simp only [lockedB, h1, h2, h3, Bool.true_and, Bool.false_and]), trivial⟩
  refine ⟨_, _, isLocked_c w hcl client cmd, lends_cons (lend_one (la_ptr rfl rfl rfl (all2_cell (xs := w.enc) rfl))) (lends_cons (lend_one (la_lit rfl)) (lends_cons (lend_one (la_lit rfl)) lends_nil)), ?_⟩; (conv => whnf)
  exact ⟨close_bool (by simp only [lockedB, h1, h2, h3, Bool.true_and]), trivial⟩
theorem lockedSpec_c (w : DWorld) (hw : w.ok) (hu : ∀ d ∈ w.array.drives, usedN d.files ≤ 1000000000000) (client cmd : Int) : Fun1 Try.prog 53 [.agg w.enc, .one (.lit (.int .i64 client)), .one (.lit (.int .i64 cmd))] (.one (.lit (.bool (lockedB w client cmd)))) := by
  have hcl := hw.2.2.2.1
  refine fun1_of_vc tb_ok mix (fn := Try.f53) Try.func53 rfl (by kernel_rfl) (by kernel_rfl) (by simp [Try.f53]) (by rfl) ?_
  (conv => whnf)
  refine ⟨_, _, worldSpec_c w hw hu, (by repeat' (first | exact lends_nil | exact lend_dead | apply lends_cons | apply lend_agg | apply lend_one | exact all2_nil | apply all2_cons | exact la_lit rfl | exact la_int (by first | rfl | omega) | exact la_row rfl rfl | exact la_loc rfl rfl rfl (by first | rfl | simp [mkL_length]) (by first | rfl | simp) | exact la_nil rfl | apply la_fn rfl | exact lend_same rfl rfl | exact lend_bor rfl rfl)), ?_⟩; (conv => whnf)
  (split <;> rename_i h1 <;> (try simp only [decide_eq_true_eq, decide_eq_false_iff_not, Bool.not_eq_true', Bool.not_eq_false', Bool.not_eq_true, Bool.not_eq_false, List.length_map] at h1) <;> conv => whnf)
  case h_2 => exact ⟨close_bool (by simp only [lockedB, h1, Bool.false_and]), trivial⟩
  refine ⟨_, _, l16Is_c w client, (by repeat' (first | exact lends_nil | exact lend_dead | apply lends_cons | apply lend_agg | apply lend_one | exact all2_nil | apply all2_cons | exact la_lit rfl | exact la_int (by first | rfl | omega) | exact la_row rfl rfl | exact la_loc rfl rfl rfl (by first | rfl | simp [mkL_length]) (by first | rfl | simp) | exact la_nil rfl | apply la_fn rfl | exact lend_same rfl rfl | exact lend_bor rfl rfl)), ?_⟩; (conv => whnf)
  (split <;> rename_i h2 <;> (try simp only [decide_eq_true_eq, decide_eq_false_iff_not, Bool.not_eq_true', Bool.not_eq_false', Bool.not_eq_true, Bool.not_eq_false, List.length_map] at h2) <;> conv => whnf)
  case h_2 => exact ⟨close_bool (by simp only [lockedB, h1, h2, Bool.true_and, Bool.false_and]), trivial⟩
  refine ⟨_, _, l16Cmd_c cmd, (by repeat' (first | exact lends_nil | exact lend_dead | apply lends_cons | apply lend_agg | apply lend_one | exact all2_nil | apply all2_cons | exact la_lit rfl | exact la_int (by first | rfl | omega) | exact la_row rfl rfl | exact la_loc rfl rfl rfl (by first | rfl | simp [mkL_length]) (by first | rfl | simp) | exact la_nil rfl | apply la_fn rfl | exact lend_same rfl rfl | exact lend_bor rfl rfl)), ?_⟩; (conv => whnf)
  (split <;> rename_i h3 <;> (try simp only [decide_eq_true_eq, decide_eq_false_iff_not, Bool.not_eq_true', Bool.not_eq_false', Bool.not_eq_true, Bool.not_eq_false, List.length_map] at h3) <;> conv => whnf)
  case h_2 => exact ⟨close_bool (by simp only [lockedB, h1, h2, h3, Bool.true_and, Bool.false_and]), trivial⟩
  refine ⟨_, _, l16Locked_c w h1 hcl client cmd, (by repeat' (first | exact lends_nil | exact lend_dead | apply lends_cons | apply lend_agg | apply lend_one | exact all2_nil | apply all2_cons | exact la_lit rfl | exact la_int (by first | rfl | omega) | exact la_row rfl rfl | exact la_loc rfl rfl rfl (by first | rfl | simp [mkL_length]) (by first | rfl | simp) | exact la_nil rfl | apply la_fn rfl | exact lend_same rfl rfl | exact lend_bor rfl rfl)), ?_⟩; (conv => whnf)
  exact ⟨close_bool (by simp only [lockedB, h1, h2, h3, Bool.true_and]), trivial⟩
end Go.Proofs.Ytlijeincckbdaaa
namespace Go.Proofs.Ytlijeincckbdaaa
open Go.RowKit
set_option linter.unusedSimpArgs false
set_option linter.unusedVariables false
set_option maxRecDepth 100000
set_option maxHeartbeats 8000000
theorem l09Copy_c (x : DArray) (hx : x.ok) : Fun1 Try.prog 148 [.agg x.enc] (.agg x.enc) := by
  obtain ⟨hk, hm, hl, hd⟩ := hx
  refine fun1_of_vc tb_ok mix (fn := Try.f148) Try.func148 rfl (by kernel_rfl) (by kernel_rfl) (by simp [Try.f148]) (by exact DArray.enc_nb _) ?_
  (conv => whnf)
  refine ⟨LG (fun i : Nat => i ≤ x.drives.length) (fun i => x.drives.length - i) (fun i => AS.of [(1, .one (.ptr 16 0)), (2, .one (.ptr 32 0)), (3, .one (.ptr 48 0)), (4, .one (.lit (.int .i64 (i : Nat))))]
    [(16, .var x.enc), (32, .var [.lit (.int .i64 0), .lit (.int .i64 0), .lit (.slice none 0 0)]), (48, .var [.lit (.int .i64 x.k), .lit (.int .i64 x.m), .loc 416 0 i]), (416, .row true 2 ((x.drives.take i).map DDrive.enc))]),
    lg_init 0 (by omega) (weak_nilv 48 416 2 [.lit (.int .i64 x.k), .lit (.int .i64 x.m)] [] rfl rfl (weak_of (by repeat (first | refine all_cons (by first | rfl | exact eq_int rfl (by first | rfl | omega | (simp; done) | (simp; omega)) | exact eq_loc rfl (by first | rfl | omega | (simp; done) | (simp; omega)) | exact eq_bool rfl (by simp_all)) ?_ | exact all_nil)) (by repeat (first | refine all_cons (by first | rfl | exact eq_int rfl (by first | rfl | omega | (simp; done) | (simp; omega)) | exact eq_loc rfl (by first | rfl | omega | (simp; done) | (simp; omega)) | exact eq_bool rfl (by simp_all)) ?_ | exact all_nil)) rfl rfl)), ?_⟩
  rintro σ k ⟨i, hi, rfl, rfl⟩
  refine ⟨_, Weak.refl _, ?_⟩
  (conv => whnf)
  (split <;> rename_i h <;> (try simp only [decide_eq_true_eq, decide_eq_false_iff_not, Bool.not_eq_true', Bool.not_eq_false', Bool.not_eq_true, Bool.not_eq_false, List.length_map] at h) <;> conv => whnf)
  · have hlt : i < x.drives.length := by omega
    have hts : (x.drives.take (i + 1)).map DDrive.enc = (x.drives.take i).map DDrive.enc ++ [x.drives[i].enc] := by
      rw [List.take_succ_eq_append_getElem hlt, List.map_append]; rfl
    refine ⟨i, rfl, _, at_map hlt, ?_⟩; (conv => whnf)
    refine ⟨_, _, l08Copy_c x.drives[i] (hd _ (List.getElem_mem hlt)), (by repeat' (first | exact lends_nil | exact lend_dead | apply lends_cons | apply lend_agg | apply lend_one | exact all2_nil | apply all2_cons | exact la_lit rfl | exact la_int (by first | rfl | omega) | exact la_row rfl rfl | exact la_loc rfl rfl rfl (by first | rfl | simp [mkL_length]) (by first | rfl | simp) | exact la_nil rfl | apply la_fn rfl | exact lend_same rfl rfl | exact lend_bor rfl rfl)), ?_⟩; (conv => whnf)
    refine ⟨_, _, ⟨rfl, Nat.le_refl _, rfl, rfl⟩, ?_⟩; (conv => whnf)
    refine ⟨_, rfl, rfl, by simp; omega, rfl, by simp [maxLen, chunk]; omega, by simp [chunk]; omega, ?_⟩; (conv => whnf)
    (refine ⟨((i + 1 : Nat) : Int), by rw [← wrap64_id] <;> omega, ?_⟩; conv => whnf)
    exact lg_back (i + 1) (by omega) (by (try dsimp only); omega) (weak_absorb 416 384 ((x.drives.take i).map DDrive.enc) [] [] [.lit (.int .i64 x.drives[i].room)] (es2 := x.drives[i].files.map DStored.enc) (by decide) rfl rfl (cellRow_map (fun _ => rfl) _) rfl rfl rfl
      (weak_of (all_cons rfl (all_cons rfl (all_cons rfl (all_cons rfl all_nil)))) (all_cons rfl (all_cons rfl (all_cons (eq_var rfl (by simp [chunk, AV.kill]; omega)) (all_cons (eq_row rfl (by rw [hts]; rfl)) all_nil)))) rfl rfl))
  · have : i = x.drives.length := by omega
    subst this
    exact ⟨close_int rfl, close_int rfl, close_row rfl rfl (by simp) (by simp), trivial⟩
theorem arrayCopied_c (x : DArray) (hx : x.ok) : Fun1 Try.prog 149 [.agg x.enc] (.agg x.enc) := by
  obtain ⟨hk, hm, hl, hd⟩ := hx
  refine fun1_of_vc tb_ok mix (fn := Try.f149) Try.func149 rfl (by kernel_rfl) (by kernel_rfl) (by simp [Try.f149]) (by exact DArray.enc_nb _) ?_
  (conv => whnf)
  refine ⟨LG (fun i : Nat => i ≤ x.drives.length) (fun i => x.drives.length - i) (fun i => AS.of [(2, .one (.ptr 32 0)), (3, .one (.ptr 48 0)), (12, .one (.row false 2 (x.drives.map DDrive.enc))), (13, .one (.lit (.int .i64 (x.drives.length : Nat)))), (14, .one (.lit (.int .i64 (i : Nat))))]
    [(32, .var [.lit (.int .i64 0), .lit (.int .i64 0), .lit (.slice none 0 0)]), (48, .var [.lit (.int .i64 x.k), .lit (.int .i64 x.m), .loc 368 0 i]), (368, .row true 2 ((x.drives.take i).map DDrive.enc))]),
    lg_init 0 (by omega) (weak_nilv 48 368 2 [.lit (.int .i64 x.k), .lit (.int .i64 x.m)] [] rfl rfl (weak_of (by repeat (first | refine all_cons (by first | rfl | exact eq_int rfl (by first | rfl | omega | (simp; done) | (simp; omega)) | exact eq_loc rfl (by first | rfl | omega | (simp; done) | (simp; omega)) | exact eq_bool rfl (by simp_all)) ?_ | exact all_nil)) (by repeat (first | refine all_cons (by first | rfl | exact eq_int rfl (by first | rfl | omega | (simp; done) | (simp; omega)) | exact eq_loc rfl (by first | rfl | omega | (simp; done) | (simp; omega)) | exact eq_bool rfl (by simp_all)) ?_ | exact all_nil)) rfl rfl)), ?_⟩
  rintro σ k ⟨i, hi, rfl, rfl⟩
  refine ⟨_, Weak.refl _, ?_⟩
  (conv => whnf)
  (split <;> rename_i h <;> (try simp only [decide_eq_true_eq, decide_eq_false_iff_not, Bool.not_eq_true', Bool.not_eq_false', Bool.not_eq_true, Bool.not_eq_false, List.length_map] at h) <;> conv => whnf)
  · have hlt : i < x.drives.length := by omega
    have hts : (x.drives.take (i + 1)).map DDrive.enc = (x.drives.take i).map DDrive.enc ++ [x.drives[i].enc] := by
      rw [List.take_succ_eq_append_getElem hlt, List.map_append]; rfl
    refine ⟨i, rfl, _, at_map hlt, ?_⟩; (conv => whnf)
    refine ⟨_, _, copied_c x.drives[i] (hd _ (List.getElem_mem hlt)), (by repeat' (first | exact lends_nil | exact lend_dead | apply lends_cons | apply lend_agg | apply lend_one | exact all2_nil | apply all2_cons | exact la_lit rfl | exact la_int (by first | rfl | omega) | exact la_row rfl rfl | exact la_loc rfl rfl rfl (by first | rfl | simp [mkL_length]) (by first | rfl | simp) | exact la_nil rfl | apply la_fn rfl | exact lend_same rfl rfl | exact lend_bor rfl rfl)), ?_⟩; (conv => whnf)
    refine ⟨_, _, ⟨rfl, Nat.le_refl _, rfl, rfl⟩, ?_⟩; (conv => whnf)
    refine ⟨_, rfl, rfl, by simp; omega, rfl, by simp [maxLen, chunk]; omega, by simp [chunk]; omega, ?_⟩; (conv => whnf)
    (refine ⟨((i + 1 : Nat) : Int), by rw [← wrap64_id] <;> omega, ?_⟩; conv => whnf)
    exact lg_back (i + 1) (by omega) (by (try dsimp only); omega) (weak_absorb 368 336 ((x.drives.take i).map DDrive.enc) [] [] [.lit (.int .i64 x.drives[i].room)] (es2 := x.drives[i].files.map DStored.enc) (by decide) rfl rfl (cellRow_map (fun _ => rfl) _) rfl rfl rfl
      (weak_of (all_cons rfl (all_cons rfl (all_cons rfl (all_cons rfl (all_cons rfl all_nil))))) (all_cons rfl (all_cons (eq_var rfl (by simp [chunk, AV.kill]; omega)) (all_cons (eq_row rfl (by rw [hts]; rfl)) all_nil))) rfl rfl))
  · have : i = x.drives.length := by omega
    subst this
    exact ⟨close_int rfl, close_int rfl, close_row rfl rfl (by simp) (by simp), trivial⟩
def clientZ : DClient := ⟨0, .empty, [], 0, 0⟩
def newW (x : DArray) (c : DCutting) (n : Int) : DWorld := if arrayOk x = true ∧ cutOk c = true ∧ 1 ≤ n ∧ n ≤ 4 then ⟨x, c, 0, List.replicate n.toNat clientZ⟩ else ⟨⟨0, 0, []⟩, ⟨0, 0, 0⟩, 0, []⟩
theorem replicate_nil (k : Nat) : nilR (List.replicate k [.lit (.int .i64 0), .lit (.string .empty), .lit (.slice none 0 0), .lit (.int .i64 0), .lit (.int .i64 0)]) ((List.replicate k clientZ).map DClient.enc) := by
  induction k with
  | zero => exact trivial
  | succ k ih => exact ⟨⟨rfl, rfl, .inr ⟨5, rfl⟩, rfl, rfl, trivial⟩, ih⟩
theorem newImpl_c (x : DArray) (hx : x.ok) (hu : ∀ d ∈ x.drives, usedN d.files ≤ 1000000000000) (c : DCutting) (n : Int) (res : DWorld) (hres : newW x c n = res) :
    Fun1 Try.prog 57 [.agg x.enc, .agg c.enc, .one (.lit (.int .i64 n))] (.agg res.enc) := by
  refine fun1_of_vc tb_ok mix (fn := Try.f57) Try.func57 rfl (by kernel_rfl) (by kernel_rfl) (by simp [Try.f57]) (by exact DWorld.enc_nb _) ?_
  (conv => whnf)
  refine ⟨_, _, arrayImpl_c x hx hu, (by repeat' (first | exact lends_nil | exact lend_dead | apply lends_cons | apply lend_agg | apply lend_one | exact all2_nil | apply all2_cons | exact la_lit rfl | exact la_int (by first | rfl | omega) | exact la_row rfl rfl | exact la_loc rfl rfl rfl (by first | rfl | simp [mkL_length]) (by first | rfl | simp) | exact la_nil rfl | apply la_fn rfl | exact lend_same rfl rfl | exact lend_bor rfl rfl)), ?_⟩; (conv => whnf)
  (split <;> rename_i h1 <;> (try simp only [decide_eq_true_eq, decide_eq_false_iff_not, Bool.not_eq_true', Bool.not_eq_false', Bool.not_eq_true, Bool.not_eq_false, List.length_map] at h1) <;> conv => whnf)
  · have : res = ⟨⟨0, 0, []⟩, ⟨0, 0, 0⟩, 0, []⟩ := by rw [← hres, newW, if_neg (by simp [h1])]
    subst this
    exact (by repeat' (first | exact trivial | exact close_int rfl | exact close_str rfl | exact close_bool rfl | exact close_int (by omega) | exact close_row rfl rfl (by first | rfl | simp) (by first | rfl | simp) | exact close_nil (by first | rfl | simp) | exact rfl | apply And.intro | apply closeTs_cons rfl))
  refine ⟨_, _, cutImpl_c c, (by repeat' (first | exact lends_nil | exact lend_dead | apply lends_cons | apply lend_agg | apply lend_one | exact all2_nil | apply all2_cons | exact la_lit rfl | exact la_int (by first | rfl | omega) | exact la_row rfl rfl | exact la_loc rfl rfl rfl (by first | rfl | simp [mkL_length]) (by first | rfl | simp) | exact la_nil rfl | apply la_fn rfl | exact lend_same rfl rfl | exact lend_bor rfl rfl)), ?_⟩; (conv => whnf)
  (split <;> rename_i h2 <;> (try simp only [decide_eq_true_eq, decide_eq_false_iff_not, Bool.not_eq_true', Bool.not_eq_false', Bool.not_eq_true, Bool.not_eq_false, List.length_map] at h2) <;> conv => whnf)
  · have : res = ⟨⟨0, 0, []⟩, ⟨0, 0, 0⟩, 0, []⟩ := by rw [← hres, newW, if_neg (by simp [h2])]
    subst this
    exact (by repeat' (first | exact trivial | exact close_int rfl | exact close_str rfl | exact close_bool rfl | exact close_int (by omega) | exact close_row rfl rfl (by first | rfl | simp) (by first | rfl | simp) | exact close_nil (by first | rfl | simp) | exact rfl | apply And.intro | apply closeTs_cons rfl))
  refine ⟨_, _, within_w n 1 4, (by repeat' (first | exact lends_nil | exact lend_dead | apply lends_cons | apply lend_agg | apply lend_one | exact all2_nil | apply all2_cons | exact la_lit rfl | exact la_int (by first | rfl | omega) | exact la_row rfl rfl | exact la_loc rfl rfl rfl (by first | rfl | simp [mkL_length]) (by first | rfl | simp) | exact la_nil rfl | apply la_fn rfl | exact lend_same rfl rfl | exact lend_bor rfl rfl)), ?_⟩; (conv => whnf)
  (split <;> rename_i h3 <;> (try simp only [decide_eq_true_eq, decide_eq_false_iff_not, Bool.not_eq_true', Bool.not_eq_false', Bool.not_eq_true, Bool.not_eq_false, List.length_map] at h3) <;> conv => whnf)
  · have : res = ⟨⟨0, 0, []⟩, ⟨0, 0, 0⟩, 0, []⟩ := by rw [← hres, newW, if_neg (by simp [wi] at h3; omega)]
    subst this
    exact (by repeat' (first | exact trivial | exact close_int rfl | exact close_str rfl | exact close_bool rfl | exact close_int (by omega) | exact close_row rfl rfl (by first | rfl | simp) (by first | rfl | simp) | exact close_nil (by first | rfl | simp) | exact rfl | apply And.intro | apply closeTs_cons rfl))
  simp only [wi, Bool.and_eq_true, decide_eq_true_eq] at h3
  have : res = ⟨x, c, 0, List.replicate n.toNat clientZ⟩ := by rw [← hres, newW, if_pos ⟨h1, h2, h3⟩]
  subst this
  refine ⟨_, _, arrayCopied_c x hx, (by repeat' (first | exact lends_nil | exact lend_dead | apply lends_cons | apply lend_agg | apply lend_one | exact all2_nil | apply all2_cons | exact la_lit rfl | exact la_int (by first | rfl | omega) | exact la_row rfl rfl | exact la_loc rfl rfl rfl (by first | rfl | simp [mkL_length]) (by first | rfl | simp) | exact la_nil rfl | apply la_fn rfl | exact lend_same rfl rfl | exact lend_bor rfl rfl)), ?_⟩; (conv => whnf)
  refine ⟨n.toNat, by omega, Int.le_refl _, by omega, by simp [maxLen]; omega, ?_⟩; (conv => whnf)
  exact ⟨close_int rfl, close_int rfl, close_row rfl rfl rfl rfl, close_int rfl, close_int rfl, close_int rfl, close_int rfl, close_rowN rfl rfl (by simp) (replicate_nil _), trivial⟩
theorem newSpec_c (x : DArray) (hx : x.ok) (hu : ∀ d ∈ x.drives, usedN d.files ≤ 1000000000000) (c : DCutting) (n : Int) (res : DWorld) (hres : newW x c n = res) :
    Fun1 Try.prog 55 [.agg x.enc, .agg c.enc, .one (.lit (.int .i64 n))] (.agg res.enc) := by
  refine fun1_of_vc tb_ok mix (fn := Try.f55) Try.func55 rfl (by kernel_rfl) (by kernel_rfl) (by simp [Try.f55]) (by exact DWorld.enc_nb _) ?_
  (conv => whnf)
  refine ⟨_, _, arraySpec_c x hx hu, (by repeat' (first | exact lends_nil | exact lend_dead | apply lends_cons | apply lend_agg | apply lend_one | exact all2_nil | apply all2_cons | exact la_lit rfl | exact la_int (by first | rfl | omega) | exact la_row rfl rfl | exact la_loc rfl rfl rfl (by first | rfl | simp [mkL_length]) (by first | rfl | simp) | exact la_nil rfl | apply la_fn rfl | exact lend_same rfl rfl | exact lend_bor rfl rfl)), ?_⟩; (conv => whnf)
  (split <;> rename_i h1 <;> (try simp only [decide_eq_true_eq, decide_eq_false_iff_not, Bool.not_eq_true', Bool.not_eq_false', Bool.not_eq_true, Bool.not_eq_false, List.length_map] at h1) <;> conv => whnf)
  · have : res = ⟨⟨0, 0, []⟩, ⟨0, 0, 0⟩, 0, []⟩ := by rw [← hres, newW, if_neg (by simp [h1])]
    subst this
    exact (by repeat' (first | exact trivial | exact close_int rfl | exact close_str rfl | exact close_bool rfl | exact close_int (by omega) | exact close_row rfl rfl (by first | rfl | simp) (by first | rfl | simp) | exact close_nil (by first | rfl | simp) | exact rfl | apply And.intro | apply closeTs_cons rfl))
  refine ⟨_, _, cutSpec_c c, (by repeat' (first | exact lends_nil | exact lend_dead | apply lends_cons | apply lend_agg | apply lend_one | exact all2_nil | apply all2_cons | exact la_lit rfl | exact la_int (by first | rfl | omega) | exact la_row rfl rfl | exact la_loc rfl rfl rfl (by first | rfl | simp [mkL_length]) (by first | rfl | simp) | exact la_nil rfl | apply la_fn rfl | exact lend_same rfl rfl | exact lend_bor rfl rfl)), ?_⟩; (conv => whnf)
  (split <;> rename_i h2 <;> (try simp only [decide_eq_true_eq, decide_eq_false_iff_not, Bool.not_eq_true', Bool.not_eq_false', Bool.not_eq_true, Bool.not_eq_false, List.length_map] at h2) <;> conv => whnf)
  · have : res = ⟨⟨0, 0, []⟩, ⟨0, 0, 0⟩, 0, []⟩ := by rw [← hres, newW, if_neg (by simp [h2])]
    subst this
    exact (by repeat' (first | exact trivial | exact close_int rfl | exact close_str rfl | exact close_bool rfl | exact close_int (by omega) | exact close_row rfl rfl (by first | rfl | simp) (by first | rfl | simp) | exact close_nil (by first | rfl | simp) | exact rfl | apply And.intro | apply closeTs_cons rfl))
  (split <;> rename_i h3 <;> (try simp only [decide_eq_true_eq, decide_eq_false_iff_not, Bool.not_eq_true', Bool.not_eq_false', Bool.not_eq_true, Bool.not_eq_false, List.length_map] at h3) <;> conv => whnf)
  · have : res = ⟨⟨0, 0, []⟩, ⟨0, 0, 0⟩, 0, []⟩ := by rw [← hres, newW, if_neg (by omega)]
    subst this
    exact (by repeat' (first | exact trivial | exact close_int rfl | exact close_str rfl | exact close_bool rfl | exact close_int (by omega) | exact close_row rfl rfl (by first | rfl | simp) (by first | rfl | simp) | exact close_nil (by first | rfl | simp) | exact rfl | apply And.intro | apply closeTs_cons rfl))
  (split <;> rename_i h4 <;> (try simp only [decide_eq_true_eq, decide_eq_false_iff_not, Bool.not_eq_true', Bool.not_eq_false', Bool.not_eq_true, Bool.not_eq_false, List.length_map] at h4) <;> conv => whnf)
  · have : res = ⟨⟨0, 0, []⟩, ⟨0, 0, 0⟩, 0, []⟩ := by rw [← hres, newW, if_neg (by omega)]
    subst this
    exact (by repeat' (first | exact trivial | exact close_int rfl | exact close_str rfl | exact close_bool rfl | exact close_int (by omega) | exact close_row rfl rfl (by first | rfl | simp) (by first | rfl | simp) | exact close_nil (by first | rfl | simp) | exact rfl | apply And.intro | apply closeTs_cons rfl))
  have : res = ⟨x, c, 0, List.replicate n.toNat clientZ⟩ := by rw [← hres, newW, if_pos ⟨h1, h2, by omega, by omega⟩]
  subst this
  refine ⟨_, _, l09Copy_c x hx, (by repeat' (first | exact lends_nil | exact lend_dead | apply lends_cons | apply lend_agg | apply lend_one | exact all2_nil | apply all2_cons | exact la_lit rfl | exact la_int (by first | rfl | omega) | exact la_row rfl rfl | exact la_loc rfl rfl rfl (by first | rfl | simp [mkL_length]) (by first | rfl | simp) | exact la_nil rfl | apply la_fn rfl | exact lend_same rfl rfl | exact lend_bor rfl rfl)), ?_⟩; (conv => whnf)
  refine ⟨n.toNat, by omega, Int.le_refl _, by omega, by simp [maxLen]; omega, ?_⟩; (conv => whnf)
  exact ⟨close_int rfl, close_int rfl, close_row rfl rfl rfl rfl, close_int rfl, close_int rfl, close_int rfl, close_int rfl, close_rowN rfl rfl (by simp) (replicate_nil _), trivial⟩
end Go.Proofs.Ytlijeincckbdaaa
