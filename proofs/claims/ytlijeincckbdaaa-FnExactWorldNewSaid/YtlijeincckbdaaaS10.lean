/- Contracts: right worlds, locks. -/
import Derived.Test.YtlijeincckbdaaaS9
namespace Go.Proofs.Ytlijeincckbdaaa
open Go.RowKit
set_option linter.unusedSimpArgs false
set_option linter.unusedVariables false
set_option maxRecDepth 100000
set_option maxHeartbeats 8000000
theorem nameOk_ne {s : ByteArray} (h : nameOk s 20 = true) : ¬ s = ⟨#[]⟩ := by
  rintro rfl
  simp [nameOk, ByteArray.size] at h
theorem l16Client_c (x : DArray) (c : DClient) (hc : c.ok) (hdl : x.drives.length ≤ 4294967296) : Fun1 Try.prog 131 [.agg x.enc, .agg c.enc] (.one (.lit (.bool (idleOk c || atWork x.drives.length c)))) := by
  obtain ⟨hcmd, hnm, ⟨hsl, hso⟩, hat, hun⟩ := hc
  refine fun1_of_vc tb_ok mix (fn := Try.f131) Try.func131 rfl (by kernel_rfl) (by kernel_rfl) (by simp [Try.f131]) (by rfl) ?_
  (conv => whnf)
  refine ⟨_, _, idleSpec_c c, (by repeat' (first | exact lends_nil | exact lend_dead | apply lends_cons | apply lend_agg | apply lend_one | exact all2_nil | apply all2_cons | exact la_lit rfl | exact la_int (by first | rfl | omega) | exact la_row rfl rfl | exact la_loc rfl rfl rfl (by first | rfl | simp [mkL_length]) (by first | rfl | simp) | exact la_nil rfl | apply la_fn rfl | exact lend_same rfl rfl | exact lend_bor rfl rfl)), ?_⟩; (conv => whnf)
  (split <;> rename_i h0 <;> (try simp only [decide_eq_true_eq, decide_eq_false_iff_not, Bool.not_eq_true', Bool.not_eq_false', Bool.not_eq_true, Bool.not_eq_false, List.length_map] at h0) <;> conv => whnf)
  · exact ⟨close_bool (by rw [h0]; rfl), trivial⟩
  rw [h0, Bool.false_or]
  (split <;> rename_i h1 <;> (try simp only [decide_eq_true_eq, decide_eq_false_iff_not, Bool.not_eq_true', Bool.not_eq_false', Bool.not_eq_true, Bool.not_eq_false, List.length_map] at h1) <;> conv => whnf)
  · have hna : named c = true := by simp [named, h1]
    refine ⟨_, _, l16Cmd_c c.cmd, (by repeat' (first | exact lends_nil | exact lend_dead | apply lends_cons | apply lend_agg | apply lend_one | exact all2_nil | apply all2_cons | exact la_lit rfl | exact la_int (by first | rfl | omega) | exact la_row rfl rfl | exact la_loc rfl rfl rfl (by first | rfl | simp [mkL_length]) (by first | rfl | simp) | exact la_nil rfl | apply la_fn rfl | exact lend_same rfl rfl | exact lend_bor rfl rfl)), ?_⟩; (conv => whnf)
    (split <;> rename_i h2 <;> (try simp only [decide_eq_true_eq, decide_eq_false_iff_not, Bool.not_eq_true', Bool.not_eq_false', Bool.not_eq_true, Bool.not_eq_false, List.length_map] at h2) <;> conv => whnf)
    · exact ⟨close_bool (by simp only [atWork, h2, Bool.false_and]), trivial⟩
    refine ⟨_, _, l12Name_c c.name hnm, (by repeat' (first | exact lends_nil | exact lend_dead | apply lends_cons | apply lend_agg | apply lend_one | exact all2_nil | apply all2_cons | exact la_lit rfl | exact la_int (by first | rfl | omega) | exact la_row rfl rfl | exact la_loc rfl rfl rfl (by first | rfl | simp [mkL_length]) (by first | rfl | simp) | exact la_nil rfl | apply la_fn rfl | exact lend_same rfl rfl | exact lend_bor rfl rfl)), ?_⟩; (conv => whnf)
    cases hN : nameOk c.name 20 with
    | false =>
      (first | (split <;> rename_i h3 <;> first | (exfalso; first | (simp at h3; done) | (simp at h3; omega) | (simp_all; done) | (simp_all; omega)) | (conv => whnf)) | skip)
      exact ⟨close_bool (by simp [atWork, hna, hN]), trivial⟩
    | true =>
      have hfin : atWork x.drives.length c = (wi c.steps.length 1 400 && stepsOk x.drives.length c.steps && wi c.at_ 0 (c.steps.length - 1) && wi c.until_ 0 2000000000) := by simp [atWork, hna, hN, h2]
      (first | (split <;> rename_i h3 <;> first | (exfalso; first | (simp at h3; done) | (simp at h3; omega) | (simp_all; done) | (simp_all; omega)) | (conv => whnf)) | skip)
      (split <;> rename_i h10 <;> (try simp only [decide_eq_true_eq, decide_eq_false_iff_not, Bool.not_eq_true', Bool.not_eq_false', Bool.not_eq_true, Bool.not_eq_false, List.length_map] at h10) <;> conv => whnf)
      case h_2 => exact ⟨close_bool (by rw [hfin]; simp [wi]; omega), trivial⟩
      (split <;> rename_i h11 <;> (try simp only [decide_eq_true_eq, decide_eq_false_iff_not, Bool.not_eq_true', Bool.not_eq_false', Bool.not_eq_true, Bool.not_eq_false, List.length_map] at h11) <;> conv => whnf)
      case h_2 => exact ⟨close_bool (by rw [hfin]; simp [wi]; omega), trivial⟩
      refine ⟨_, _, l09StepsRight_c x c.steps hsl hdl, (by repeat' (first | exact lends_nil | exact lend_dead | apply lends_cons | apply lend_agg | apply lend_one | exact all2_nil | apply all2_cons | exact la_lit rfl | exact la_int (by first | rfl | omega) | exact la_row rfl rfl | exact la_loc rfl rfl rfl (by first | rfl | simp [mkL_length]) (by first | rfl | simp) | exact la_nil rfl | apply la_fn rfl | exact lend_same rfl rfl | exact lend_bor rfl rfl)), ?_⟩; (conv => whnf)
      (split <;> rename_i h12 <;> (try simp only [decide_eq_true_eq, decide_eq_false_iff_not, Bool.not_eq_true', Bool.not_eq_false', Bool.not_eq_true, Bool.not_eq_false, List.length_map] at h12) <;> conv => whnf)
      case h_2 => exact ⟨close_bool (by rw [hfin, h12]; simp), trivial⟩
      (repeat' (split <;> rename_i hb <;> (try simp only [decide_eq_true_eq, decide_eq_false_iff_not, Bool.not_eq_true', Bool.not_eq_false', Bool.not_eq_true, Bool.not_eq_false, List.length_map] at hb) <;> conv => whnf))
      all_goals exact ⟨close_bool (by first | (rw [hfin, h12]; simp [wi, *]; done) | (rw [hfin, h12]; simp [wi]; omega) | (rw [hfin, h12]; simp [wi, *]; omega)), trivial⟩
  · have hna : named c = decide (c.cmd = 2) := by simp [named, h1]
    refine ⟨_, _, l16Cmd_c c.cmd, (by repeat' (first | exact lends_nil | exact lend_dead | apply lends_cons | apply lend_agg | apply lend_one | exact all2_nil | apply all2_cons | exact la_lit rfl | exact la_int (by first | rfl | omega) | exact la_row rfl rfl | exact la_loc rfl rfl rfl (by first | rfl | simp [mkL_length]) (by first | rfl | simp) | exact la_nil rfl | apply la_fn rfl | exact lend_same rfl rfl | exact lend_bor rfl rfl)), ?_⟩; (conv => whnf)
    (split <;> rename_i h2 <;> (try simp only [decide_eq_true_eq, decide_eq_false_iff_not, Bool.not_eq_true', Bool.not_eq_false', Bool.not_eq_true, Bool.not_eq_false, List.length_map] at h2) <;> conv => whnf)
    · exact ⟨close_bool (by simp only [atWork, h2, Bool.false_and]), trivial⟩
    refine ⟨_, _, l12Name_c c.name hnm, (by repeat' (first | exact lends_nil | exact lend_dead | apply lends_cons | apply lend_agg | apply lend_one | exact all2_nil | apply all2_cons | exact la_lit rfl | exact la_int (by first | rfl | omega) | exact la_row rfl rfl | exact la_loc rfl rfl rfl (by first | rfl | simp [mkL_length]) (by first | rfl | simp) | exact la_nil rfl | apply la_fn rfl | exact lend_same rfl rfl | exact lend_bor rfl rfl)), ?_⟩; (conv => whnf)
    cases hN : nameOk c.name 20 with
    | false =>
      (split <;> rename_i h3 <;> (try simp only [decide_eq_true_eq, decide_eq_false_iff_not, Bool.not_eq_true', Bool.not_eq_false', Bool.not_eq_true, Bool.not_eq_false, List.length_map] at h3) <;> conv => whnf)
      · have hna' : named c = true := by rw [hna]; simpa using h3
        exact ⟨close_bool (by simp [atWork, hna', hN]), trivial⟩
      · have hna' : named c = false := by rw [hna]; simpa using h3
        (split <;> rename_i h4 <;> (try simp only [decide_eq_true_eq, decide_eq_false_iff_not, Bool.not_eq_true', Bool.not_eq_false', Bool.not_eq_true, Bool.not_eq_false, List.length_map] at h4) <;> conv => whnf)
        · (split <;> rename_i h5 <;> (try simp only [decide_eq_true_eq, decide_eq_false_iff_not, Bool.not_eq_true', Bool.not_eq_false', Bool.not_eq_true, Bool.not_eq_false, List.length_map] at h5) <;> conv => whnf)
          · exact ⟨close_bool (by simp [atWork, hna', hN, h5]), trivial⟩
          · have hfin : atWork x.drives.length c = (wi c.steps.length 1 400 && stepsOk x.drives.length c.steps && wi c.at_ 0 (c.steps.length - 1) && wi c.until_ 0 2000000000) := by simp [atWork, hna', hN, h2, h5]
            (split <;> rename_i h10 <;> (try simp only [decide_eq_true_eq, decide_eq_false_iff_not, Bool.not_eq_true', Bool.not_eq_false', Bool.not_eq_true, Bool.not_eq_false, List.length_map] at h10) <;> conv => whnf)
            case h_2 => exact ⟨close_bool (by rw [hfin]; simp [wi]; omega), trivial⟩
            (split <;> rename_i h11 <;> (try simp only [decide_eq_true_eq, decide_eq_false_iff_not, Bool.not_eq_true', Bool.not_eq_false', Bool.not_eq_true, Bool.not_eq_false, List.length_map] at h11) <;> conv => whnf)
            case h_2 => exact ⟨close_bool (by rw [hfin]; simp [wi]; omega), trivial⟩
            refine ⟨_, _, l09StepsRight_c x c.steps hsl hdl, (by repeat' (first | exact lends_nil | exact lend_dead | apply lends_cons | apply lend_agg | apply lend_one | exact all2_nil | apply all2_cons | exact la_lit rfl | exact la_int (by first | rfl | omega) | exact la_row rfl rfl | exact la_loc rfl rfl rfl (by first | rfl | simp [mkL_length]) (by first | rfl | simp) | exact la_nil rfl | apply la_fn rfl | exact lend_same rfl rfl | exact lend_bor rfl rfl)), ?_⟩; (conv => whnf)
            (split <;> rename_i h12 <;> (try simp only [decide_eq_true_eq, decide_eq_false_iff_not, Bool.not_eq_true', Bool.not_eq_false', Bool.not_eq_true, Bool.not_eq_false, List.length_map] at h12) <;> conv => whnf)
            case h_2 => exact ⟨close_bool (by rw [hfin, h12]; simp), trivial⟩
            (repeat' (split <;> rename_i hb <;> (try simp only [decide_eq_true_eq, decide_eq_false_iff_not, Bool.not_eq_true', Bool.not_eq_false', Bool.not_eq_true, Bool.not_eq_false, List.length_map] at hb) <;> conv => whnf))
            all_goals exact ⟨close_bool (by first | (rw [hfin, h12]; simp [wi, *]; done) | (rw [hfin, h12]; simp [wi]; omega) | (rw [hfin, h12]; simp [wi, *]; omega)), trivial⟩
        · rw [hna] at hna'; simp_all
    | true =>
      (split <;> rename_i h3 <;> (try simp only [decide_eq_true_eq, decide_eq_false_iff_not, Bool.not_eq_true', Bool.not_eq_false', Bool.not_eq_true, Bool.not_eq_false, List.length_map] at h3) <;> conv => whnf)
      · have hna' : named c = false := by rw [hna]; simpa using h3
        exact ⟨close_bool (by simp [atWork, hna', nameOk_ne hN]), trivial⟩
      · have hna' : named c = true := by rw [hna]; simpa using h3
        have hfin : atWork x.drives.length c = (wi c.steps.length 1 400 && stepsOk x.drives.length c.steps && wi c.at_ 0 (c.steps.length - 1) && wi c.until_ 0 2000000000) := by simp [atWork, hna', hN, h2]
        (split <;> rename_i h4 <;> (try simp only [decide_eq_true_eq, decide_eq_false_iff_not, Bool.not_eq_true', Bool.not_eq_false', Bool.not_eq_true, Bool.not_eq_false, List.length_map] at h4) <;> conv => whnf)
        · rw [hna] at hna'; simp_all
        (split <;> rename_i h10 <;> (try simp only [decide_eq_true_eq, decide_eq_false_iff_not, Bool.not_eq_true', Bool.not_eq_false', Bool.not_eq_true, Bool.not_eq_false, List.length_map] at h10) <;> conv => whnf)
        case h_2 => exact ⟨close_bool (by rw [hfin]; simp [wi]; omega), trivial⟩
        (split <;> rename_i h11 <;> (try simp only [decide_eq_true_eq, decide_eq_false_iff_not, Bool.not_eq_true', Bool.not_eq_false', Bool.not_eq_true, Bool.not_eq_false, List.length_map] at h11) <;> conv => whnf)
        case h_2 => exact ⟨close_bool (by rw [hfin]; simp [wi]; omega), trivial⟩
        refine ⟨_, _, l09StepsRight_c x c.steps hsl hdl, (by repeat' (first | exact lends_nil | exact lend_dead | apply lends_cons | apply lend_agg | apply lend_one | exact all2_nil | apply all2_cons | exact la_lit rfl | exact la_int (by first | rfl | omega) | exact la_row rfl rfl | exact la_loc rfl rfl rfl (by first | rfl | simp [mkL_length]) (by first | rfl | simp) | exact la_nil rfl | apply la_fn rfl | exact lend_same rfl rfl | exact lend_bor rfl rfl)), ?_⟩; (conv => whnf)
        (split <;> rename_i h12 <;> (try simp only [decide_eq_true_eq, decide_eq_false_iff_not, Bool.not_eq_true', Bool.not_eq_false', Bool.not_eq_true, Bool.not_eq_false, List.length_map] at h12) <;> conv => whnf)
        case h_2 => exact ⟨close_bool (by rw [hfin, h12]; simp), trivial⟩
        (repeat' (split <;> rename_i hb <;> (try simp only [decide_eq_true_eq, decide_eq_false_iff_not, Bool.not_eq_true', Bool.not_eq_false', Bool.not_eq_true, Bool.not_eq_false, List.length_map] at hb) <;> conv => whnf))
        all_goals exact ⟨close_bool (by first | (rw [hfin, h12]; simp [wi, *]; done) | (rw [hfin, h12]; simp [wi]; omega) | (rw [hfin, h12]; simp [wi, *]; omega)), trivial⟩
theorem world1_c (w : DWorld) (hdl : w.array.drives.length ≤ 4294967296) (c : DClient) (hc : c.ok) : Fun1 Try.prog 136 [.agg c.enc, .one (.bptr w.enc 0)] (.one (.lit (.bool (!idleOk c && !atWork w.array.drives.length c)))) := by
  refine fun1_of_vc tb_ok mix (fn := Try.f136) Try.func136 rfl (by kernel_rfl) (by kernel_rfl) (by simp [Try.f136]) (by rfl) ?_
  (conv => whnf)
  refine ⟨_, _, idleImpl_c c, (by repeat' (first | exact lends_nil | exact lend_dead | apply lends_cons | apply lend_agg | apply lend_one | exact all2_nil | apply all2_cons | exact la_lit rfl | exact la_int (by first | rfl | omega) | exact la_row rfl rfl | exact la_loc rfl rfl rfl (by first | rfl | simp [mkL_length]) (by first | rfl | simp) | exact la_nil rfl | apply la_fn rfl | exact lend_same rfl rfl | exact lend_bor rfl rfl)), ?_⟩; (conv => whnf)
  (split <;> rename_i h <;> (try simp only [decide_eq_true_eq, decide_eq_false_iff_not, Bool.not_eq_true', Bool.not_eq_false', Bool.not_eq_true, Bool.not_eq_false, List.length_map] at h) <;> conv => whnf)
  · refine ⟨_, _, sizeDrive_c w.array.drives, (by repeat' (first | exact lends_nil | exact lend_dead | apply lends_cons | apply lend_agg | apply lend_one | exact all2_nil | apply all2_cons | exact la_lit rfl | exact la_int (by first | rfl | omega) | exact la_row rfl rfl | exact la_loc rfl rfl rfl (by first | rfl | simp [mkL_length]) (by first | rfl | simp) | exact la_nil rfl | apply la_fn rfl | exact lend_same rfl rfl | exact lend_bor rfl rfl)), ?_⟩; (conv => whnf)
    refine ⟨_, _, atWorkImpl_c c hc w.array.drives.length (by omega), (by repeat' (first | exact lends_nil | exact lend_dead | apply lends_cons | apply lend_agg | apply lend_one | exact all2_nil | apply all2_cons | exact la_lit rfl | exact la_int (by first | rfl | omega) | exact la_row rfl rfl | exact la_loc rfl rfl rfl (by first | rfl | simp [mkL_length]) (by first | rfl | simp) | exact la_nil rfl | apply la_fn rfl | exact lend_same rfl rfl | exact lend_bor rfl rfl)), ?_⟩; (conv => whnf)
    exact ⟨close_bool (by rw [h]; rfl), trivial⟩
  · exact ⟨close_bool (by rw [h]; rfl), trivial⟩
def worldOk (w : DWorld) : Bool := arrayOk w.array && cutOk w.cutting && wi w.now 0 1000000000 && wi w.clients.length 1 4 && w.clients.all fun c => idleOk c || atWork w.array.drives.length c
theorem worldImpl_c (w : DWorld) (hw : w.ok) (hu : ∀ d ∈ w.array.drives, usedN d.files ≤ 1000000000000) : Fun1 Try.prog 44 [.agg w.enc] (.one (.lit (.bool (worldOk w)))) := by
  obtain ⟨ha, hcut, hnow, hcl, hc⟩ := hw
  refine fun1_of_vc tb_ok mix (fn := Try.f44) Try.func44 rfl (by kernel_rfl) (by kernel_rfl) (by simp [Try.f44]) (by rfl) ?_
  (conv => whnf)
  refine ⟨_, _, arrayImpl_c w.array ha hu, (by repeat' (first | exact lends_nil | exact lend_dead | apply lends_cons | apply lend_agg | apply lend_one | exact all2_nil | apply all2_cons | exact la_lit rfl | exact la_int (by first | rfl | omega) | exact la_row rfl rfl | exact la_loc rfl rfl rfl (by first | rfl | simp [mkL_length]) (by first | rfl | simp) | exact la_nil rfl | apply la_fn rfl | exact lend_same rfl rfl | exact lend_bor rfl rfl)), ?_⟩; (conv => whnf)
  (split <;> rename_i h1 <;> (try simp only [decide_eq_true_eq, decide_eq_false_iff_not, Bool.not_eq_true', Bool.not_eq_false', Bool.not_eq_true, Bool.not_eq_false, List.length_map] at h1) <;> conv => whnf)
  case h_2 => exact ⟨close_bool (by simp only [worldOk, h1, Bool.false_and]), trivial⟩
  refine ⟨_, _, cutImpl_c w.cutting, (by repeat' (first | exact lends_nil | exact lend_dead | apply lends_cons | apply lend_agg | apply lend_one | exact all2_nil | apply all2_cons | exact la_lit rfl | exact la_int (by first | rfl | omega) | exact la_row rfl rfl | exact la_loc rfl rfl rfl (by first | rfl | simp [mkL_length]) (by first | rfl | simp) | exact la_nil rfl | apply la_fn rfl | exact lend_same rfl rfl | exact lend_bor rfl rfl)), ?_⟩; (conv => whnf)
  (split <;> rename_i h2 <;> (try simp only [decide_eq_true_eq, decide_eq_false_iff_not, Bool.not_eq_true', Bool.not_eq_false', Bool.not_eq_true, Bool.not_eq_false, List.length_map] at h2) <;> conv => whnf)
  case h_2 => exact ⟨close_bool (by simp only [worldOk, h1, h2, Bool.true_and, Bool.false_and]), trivial⟩
  refine ⟨_, _, within_w w.now 0 1000000000, (by repeat' (first | exact lends_nil | exact lend_dead | apply lends_cons | apply lend_agg | apply lend_one | exact all2_nil | apply all2_cons | exact la_lit rfl | exact la_int (by first | rfl | omega) | exact la_row rfl rfl | exact la_loc rfl rfl rfl (by first | rfl | simp [mkL_length]) (by first | rfl | simp) | exact la_nil rfl | apply la_fn rfl | exact lend_same rfl rfl | exact lend_bor rfl rfl)), ?_⟩; (conv => whnf)
  (split <;> rename_i h3 <;> (try simp only [decide_eq_true_eq, decide_eq_false_iff_not, Bool.not_eq_true', Bool.not_eq_false', Bool.not_eq_true, Bool.not_eq_false, List.length_map] at h3) <;> conv => whnf)
  case h_2 => exact ⟨close_bool (by simp only [worldOk, h1, h2, h3, Bool.true_and, Bool.false_and]), trivial⟩
  refine ⟨_, _, sizeClient_c w.clients, (by repeat' (first | exact lends_nil | exact lend_dead | apply lends_cons | apply lend_agg | apply lend_one | exact all2_nil | apply all2_cons | exact la_lit rfl | exact la_int (by first | rfl | omega) | exact la_row rfl rfl | exact la_loc rfl rfl rfl (by first | rfl | simp [mkL_length]) (by first | rfl | simp) | exact la_nil rfl | apply la_fn rfl | exact lend_same rfl rfl | exact lend_bor rfl rfl)), ?_⟩; (conv => whnf)
  refine ⟨_, _, within_w w.clients.length 1 4, (by repeat' (first | exact lends_nil | exact lend_dead | apply lends_cons | apply lend_agg | apply lend_one | exact all2_nil | apply all2_cons | exact la_lit rfl | exact la_int (by first | rfl | omega) | exact la_row rfl rfl | exact la_loc rfl rfl rfl (by first | rfl | simp [mkL_length]) (by first | rfl | simp) | exact la_nil rfl | apply la_fn rfl | exact lend_same rfl rfl | exact lend_bor rfl rfl)), ?_⟩; (conv => whnf)
  (split <;> rename_i h4 <;> (try simp only [decide_eq_true_eq, decide_eq_false_iff_not, Bool.not_eq_true', Bool.not_eq_false', Bool.not_eq_true, Bool.not_eq_false, List.length_map] at h4) <;> conv => whnf)
  case h_2 => exact ⟨close_bool (by simp only [worldOk, h1, h2, h3, h4, Bool.true_and, Bool.false_and]), trivial⟩
  refine ⟨_, _, containsClient_c w.clients 136 w.enc rfl (fun c => !idleOk c && !atWork w.array.drives.length c) hcl (fun c hm => world1_c w ha.2.2.1 c (hc c hm)), lends_cons (lend_one (la_row rfl rfl)) (lends_cons (lend_one (la_fn rfl (all2_cons (la_ptr rfl rfl rfl (all2_cell (xs := w.enc) rfl)) all2_nil))) lends_nil), ?_⟩; (conv => whnf)
  exact ⟨close_bool (by rw [any_notc]; simp only [worldOk, h1, h2, h3, h4, Bool.true_and]), trivial⟩
theorem worldSpec_c (w : DWorld) (hw : w.ok) (hu : ∀ d ∈ w.array.drives, usedN d.files ≤ 1000000000000) : Fun1 Try.prog 42 [.agg w.enc] (.one (.lit (.bool (worldOk w)))) := by
  obtain ⟨ha, hcut, hnow, hcl, hc⟩ := hw
  refine fun1_of_vc tb_ok mix (fn := Try.f42) Try.func42 rfl (by kernel_rfl) (by kernel_rfl) (by simp [Try.f42]) (by rfl) ?_
  (conv => whnf)
  refine ⟨_, _, arraySpec_c w.array ha hu, (by repeat' (first | exact lends_nil | exact lend_dead | apply lends_cons | apply lend_agg | apply lend_one | exact all2_nil | apply all2_cons | exact la_lit rfl | exact la_int (by first | rfl | omega) | exact la_row rfl rfl | exact la_loc rfl rfl rfl (by first | rfl | simp [mkL_length]) (by first | rfl | simp) | exact la_nil rfl | apply la_fn rfl | exact lend_same rfl rfl | exact lend_bor rfl rfl)), ?_⟩; (conv => whnf)
  (split <;> rename_i h1 <;> (try simp only [decide_eq_true_eq, decide_eq_false_iff_not, Bool.not_eq_true', Bool.not_eq_false', Bool.not_eq_true, Bool.not_eq_false, List.length_map] at h1) <;> conv => whnf)
  · exact ⟨close_bool (by simp only [worldOk, h1, Bool.false_and]), trivial⟩
  refine ⟨_, _, cutSpec_c w.cutting, (by repeat' (first | exact lends_nil | exact lend_dead | apply lends_cons | apply lend_agg | apply lend_one | exact all2_nil | apply all2_cons | exact la_lit rfl | exact la_int (by first | rfl | omega) | exact la_row rfl rfl | exact la_loc rfl rfl rfl (by first | rfl | simp [mkL_length]) (by first | rfl | simp) | exact la_nil rfl | apply la_fn rfl | exact lend_same rfl rfl | exact lend_bor rfl rfl)), ?_⟩; (conv => whnf)
  (split <;> rename_i h2 <;> (try simp only [decide_eq_true_eq, decide_eq_false_iff_not, Bool.not_eq_true', Bool.not_eq_false', Bool.not_eq_true, Bool.not_eq_false, List.length_map] at h2) <;> conv => whnf)
  · exact ⟨close_bool (by simp only [worldOk, h1, h2, Bool.true_and, Bool.false_and]), trivial⟩
  (split <;> rename_i h3 <;> (try simp only [decide_eq_true_eq, decide_eq_false_iff_not, Bool.not_eq_true', Bool.not_eq_false', Bool.not_eq_true, Bool.not_eq_false, List.length_map] at h3) <;> conv => whnf)
  · exact ⟨close_bool (by simp [worldOk, wi]; omega), trivial⟩
  (split <;> rename_i h4 <;> (try simp only [decide_eq_true_eq, decide_eq_false_iff_not, Bool.not_eq_true', Bool.not_eq_false', Bool.not_eq_true, Bool.not_eq_false, List.length_map] at h4) <;> conv => whnf)
  · exact ⟨close_bool (by simp [worldOk, wi]; omega), trivial⟩
  (split <;> rename_i h5 <;> (try simp only [decide_eq_true_eq, decide_eq_false_iff_not, Bool.not_eq_true', Bool.not_eq_false', Bool.not_eq_true, Bool.not_eq_false, List.length_map] at h5) <;> conv => whnf)
  · exact ⟨close_bool (by simp [worldOk, wi]; omega), trivial⟩
  (split <;> rename_i h6 <;> (try simp only [decide_eq_true_eq, decide_eq_false_iff_not, Bool.not_eq_true', Bool.not_eq_false', Bool.not_eq_true, Bool.not_eq_false, List.length_map] at h6) <;> conv => whnf)
  · exact ⟨close_bool (by simp [worldOk, wi]; omega), trivial⟩
  have hfin : worldOk w = w.clients.all fun c => idleOk c || atWork w.array.drives.length c := by
    have h7 : wi w.now 0 1000000000 = true := by simp [wi]; omega
    have h8 : wi w.clients.length 1 4 = true := by simp [wi]; omega
    simp only [worldOk, h1, h2, h7, h8, Bool.true_and]
  rw [hfin]
  refine ⟨LG (fun i : Nat => i ≤ w.clients.length ∧ ∀ j (h : j < w.clients.length), j < i → (idleOk w.clients[j] || atWork w.array.drives.length w.clients[j]) = true) (fun i => w.clients.length - i) (fun i => AS.of [(1, .one (.ptr 16 0)), (3, .one (.lit (.int .i64 (i : Nat))))] [(16, .var w.enc)]), lg_init 0 ⟨by omega, fun j h h' => by omega⟩ (weak_of (by repeat (first | refine all_cons (by first | rfl | exact eq_int rfl (by first | rfl | omega | (simp; done) | (simp; omega)) | exact eq_loc rfl (by first | rfl | omega | (simp; done) | (simp; omega)) | exact eq_bool rfl (by simp_all)) ?_ | exact all_nil)) (by repeat (first | refine all_cons (by first | rfl | exact eq_int rfl (by first | rfl | omega | (simp; done) | (simp; omega)) | exact eq_loc rfl (by first | rfl | omega | (simp; done) | (simp; omega)) | exact eq_bool rfl (by simp_all)) ?_ | exact all_nil)) rfl rfl), ?_⟩
  rintro σ k ⟨i, ⟨hi, hcc⟩, rfl, rfl⟩
  refine ⟨_, Weak.refl _, ?_⟩
  (conv => whnf)
  (split <;> rename_i h <;> (try simp only [decide_eq_true_eq, decide_eq_false_iff_not, Bool.not_eq_true', Bool.not_eq_false', Bool.not_eq_true, Bool.not_eq_false, List.length_map] at h) <;> conv => whnf)
  · have hlt : i < w.clients.length := by omega
    refine ⟨i, rfl, _, at_map hlt, ?_⟩; (conv => whnf)
    refine ⟨_, _, l16Client_c w.array w.clients[i] (hc _ (List.getElem_mem hlt)) ha.2.2.1, (by repeat' (first | exact lends_nil | exact lend_dead | apply lends_cons | apply lend_agg | apply lend_one | exact all2_nil | apply all2_cons | exact la_lit rfl | exact la_int (by first | rfl | omega) | exact la_row rfl rfl | exact la_loc rfl rfl rfl (by first | rfl | simp [mkL_length]) (by first | rfl | simp) | exact la_nil rfl | apply la_fn rfl | exact lend_same rfl rfl | exact lend_bor rfl rfl)), ?_⟩; (conv => whnf)
    (split <;> rename_i h9 <;> (try simp only [decide_eq_true_eq, decide_eq_false_iff_not, Bool.not_eq_true', Bool.not_eq_false', Bool.not_eq_true, Bool.not_eq_false, List.length_map] at h9) <;> conv => whnf)
    · exact ⟨close_bool (by rw [List.all_eq_false]; exact ⟨_, List.getElem_mem hlt, by rw [h9]; simp⟩), trivial⟩
    · (refine ⟨((i + 1 : Nat) : Int), by rw [← wrap64_id] <;> omega, ?_⟩; conv => whnf)
      exact lg_back (i + 1) ⟨by omega, fun j hj hji => by
        by_cases e : j = i
        · subst e; exact h9
        · exact hcc j hj (by omega)⟩ (by (try dsimp only); omega) (weak_of (by repeat (first | refine all_cons (by first | rfl | exact eq_int rfl (by first | rfl | omega | (simp; done) | (simp; omega)) | exact eq_loc rfl (by first | rfl | omega | (simp; done) | (simp; omega)) | exact eq_bool rfl (by simp_all)) ?_ | exact all_nil)) (by repeat (first | refine all_cons (by first | rfl | exact eq_int rfl (by first | rfl | omega | (simp; done) | (simp; omega)) | exact eq_loc rfl (by first | rfl | omega | (simp; done) | (simp; omega)) | exact eq_bool rfl (by simp_all)) ?_ | exact all_nil)) rfl rfl)
  · exact ⟨close_bool (by
      rw [List.all_eq_true]; intro c hm
      obtain ⟨j, hj, rfl⟩ := List.getElem_of_mem hm
      exact hcc j hj (by omega)), trivial⟩
end Go.Proofs.Ytlijeincckbdaaa
