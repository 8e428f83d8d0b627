/- Contracts of the law's own functions: sizes, copies, comparisons. -/
import Derived.Test.YtlijeincckbdaaaQe
import Derived.Test.YtlijeincckbdaaaQT
namespace Go.Proofs.Ytlijeincckbdaaa
open Go.RowKit
set_option linter.unusedSimpArgs false
set_option linter.unusedVariables false
set_option maxRecDepth 100000
theorem szStored_c (x : DStored) (left : Int) (hx : x.it) (h0 : 0 ≤ left) (h1 : left ≤ 1048576) : Fun1 Try.prog 170 [.agg x.enc, .one (.lit (.int .i64 left))] (.one (.lit (.int .i64 (szF x.wt left)))) := by
  unfold DStored.it at hx
  obtain ⟨hx0, hx1, hx2⟩ := hx
  have hw : x.wt = x.name.size + x.text.size := rfl
  refine fun1_of_vc tb_ok mix (fn := Try.f170) Try.func170 rfl (by kernel_rfl) (by kernel_rfl) (by simp [Try.f170]) (by rfl) ?_
  (conv => whnf)
  refine ⟨left - (x.name.size : Nat), wrap64_id (by omega) (by omega), ?_⟩; (conv => whnf)
  (split <;> rename_i h <;> (try simp only [decide_eq_true_eq, decide_eq_false_iff_not, Bool.not_eq_true', Bool.not_eq_false', Bool.not_eq_true, Bool.not_eq_false, List.length_map] at h) <;> conv => whnf)
  · refine ⟨close_int ?_, trivial⟩; have := szF_or x.wt left; omega
  refine ⟨left - (x.name.size : Nat) - (x.text.size : Nat), wrap64_id (by omega) (by omega), ?_⟩; (conv => whnf)
  (split <;> rename_i h <;> (try simp only [decide_eq_true_eq, decide_eq_false_iff_not, Bool.not_eq_true', Bool.not_eq_false', Bool.not_eq_true, Bool.not_eq_false, List.length_map] at h) <;> conv => whnf)
  · refine ⟨close_int ?_, trivial⟩; have := szF_or x.wt left; omega
  refine ⟨close_int ?_, trivial⟩; have := szF_or x.wt left; omega
theorem toStored_c (x : DStored) (h : x.wt ≤ 1048576) : Fun1 Try.prog 171 [.agg x.enc] (.agg x.enc) := by
  have hw : x.wt = x.name.size + x.text.size := rfl
  refine fun1_of_vc tb_ok mix (fn := Try.f171) Try.func171 rfl (by kernel_rfl) (by kernel_rfl) (by simp [Try.f171]) (by exact DStored.enc_nb _) ?_
  (conv => whnf)
  exact (by repeat' (first | exact trivial | exact close_int rfl | exact close_str rfl | exact close_bool rfl | exact close_int (by omega) | exact close_row rfl rfl (by first | rfl | simp) (by first | rfl | simp) | exact close_nil (by first | rfl | simp) | exact rfl | apply And.intro | apply closeTs_cons rfl))
theorem eqStored_c (x : DStored) (hx : x.ok) : Fun1 Try.prog 176 [.agg x.enc, .agg x.enc] (.one (.lit (.bool true))) := by
  unfold DStored.ok at hx
  obtain ⟨hx0, hx1, hx2⟩ := hx
  refine fun1_of_vc tb_ok mix (fn := Try.f176) Try.func176 rfl (by kernel_rfl) (by kernel_rfl) (by simp [Try.f176]) (by rfl) ?_
  (conv => whnf)
  (first | (split <;> rename_i h <;> first | (exfalso; first | (simp at h; done) | (simp at h; omega) | (simp_all; done) | (simp_all; omega)) | (conv => whnf)) | skip)
  (first | (split <;> rename_i h <;> first | (exfalso; first | (simp at h; done) | (simp at h; omega) | (simp_all; done) | (simp_all; omega)) | (conv => whnf)) | skip)
  (first | (split <;> rename_i h <;> first | (exfalso; first | (simp at h; done) | (simp at h; omega) | (simp_all; done) | (simp_all; omega)) | (conv => whnf)) | skip)
  exact (by repeat' (first | exact trivial | exact close_int rfl | exact close_str rfl | exact close_bool rfl | exact close_int (by omega) | exact close_row rfl rfl (by first | rfl | simp) (by first | rfl | simp) | exact close_nil (by first | rfl | simp) | exact rfl | apply And.intro | apply closeTs_cons rfl))
theorem szStoredS_c (x : List DStored) (left : Int) (hl : x.length ≤ 9223372036854775807) (hx : ∀ y ∈ x, y.it) (h0 : 0 ≤ left) (h1 : left ≤ 1048576) : Fun1 Try.prog 84 [.one (.row true 3 (x.map DStored.enc)), .one (.lit (.int .i64 left))] (.one (.lit (.int .i64 (szF (wL DStored.wt x) left)))) := by
  have hw : wL DStored.wt x = x.length + (x.map DStored.wt).sum := rfl
  refine fun1_of_vc tb_ok mix (fn := Try.f84) Try.func84 rfl (by kernel_rfl) (by kernel_rfl) (by simp [Try.f84]) (by rfl) ?_
  (conv => whnf)
  refine ⟨left - (x.length : Nat), by rw [List.length_map]; exact wrap64_id (by omega) (by omega), ?_⟩; (conv => whnf)
  (split <;> rename_i h <;> (try simp only [decide_eq_true_eq, decide_eq_false_iff_not, Bool.not_eq_true', Bool.not_eq_false', Bool.not_eq_true, Bool.not_eq_false, List.length_map] at h) <;> conv => whnf)
  · refine ⟨close_int ?_, trivial⟩; have := szF_or (wL DStored.wt x) left; omega
  refine ⟨LG (fun i : Nat => i ≤ x.length ∧ ((x.length + ((x.take i).map DStored.wt).sum : Nat) : Int) ≤ left) (fun i => x.length - i) (fun i => AS.of [(0, .one (.row true 3 (x.map DStored.enc))), (1, .one (.lit (.int .i64 (left - ((x.length + ((x.take i).map DStored.wt).sum : Nat) : Int))))), (5, .one (.lit (.int .i64 (i : Nat))))] []), lg_init 0 ⟨by omega, by simp; omega⟩ (weak_of (by refine all_cons rfl (all_cons (eq_int rfl (by simp)) (all_cons rfl all_nil))) all_nil rfl rfl), ?_⟩
  rintro σ k ⟨i, ⟨hi, hc⟩, rfl, rfl⟩
  refine ⟨_, Weak.refl _, ?_⟩
  (conv => whnf)
  (split <;> rename_i h <;> (try simp only [decide_eq_true_eq, decide_eq_false_iff_not, Bool.not_eq_true', Bool.not_eq_false', Bool.not_eq_true, Bool.not_eq_false, List.length_map] at h) <;> conv => whnf)
  · have hlt : i < x.length := by simpa using h
    have hs := wsum_take_succ (f := DStored.wt) hlt
    have hle := sum_take_le DStored.wt x (i + 1)
    refine ⟨i, rfl, _, at_map hlt, ?_⟩; (conv => whnf)
    have hy := hx x[i] (List.getElem_mem hlt)
    have hq := szF_or (x[i].wt) (left - ((x.length + ((x.take i).map DStored.wt).sum : Nat) : Int))
    refine ⟨_, _, szStored_c x[i] (left - ((x.length + ((x.take i).map DStored.wt).sum : Nat) : Int)) hy (by omega) (by omega), (by repeat' (first | exact lends_nil | exact lend_dead | apply lends_cons | apply lend_agg | apply lend_one | exact all2_nil | apply all2_cons | exact la_lit rfl | exact la_int (by first | rfl | omega) | exact la_row rfl rfl | exact la_loc rfl rfl rfl (by first | rfl | simp [mkL_length]) (by first | rfl | simp) | exact la_nil rfl | apply la_fn rfl | exact lend_same rfl rfl | exact lend_bor rfl rfl)), ?_⟩; (conv => whnf)
    (split <;> rename_i h2 <;> (try simp only [decide_eq_true_eq, decide_eq_false_iff_not, Bool.not_eq_true', Bool.not_eq_false', Bool.not_eq_true, Bool.not_eq_false, List.length_map] at h2) <;> conv => whnf)
    · refine ⟨close_int ?_, trivial⟩; have := szF_or (wL DStored.wt x) left; omega
    refine ⟨((i + 1 : Nat) : Int), by rw [← wrap64_id] <;> omega, ?_⟩; (conv => whnf)
    exact lg_back (i + 1) ⟨by omega, by omega⟩ (by (try dsimp only); omega) (weak_of (by refine all_cons rfl (all_cons (eq_int rfl (by omega)) (all_cons rfl all_nil))) all_nil rfl rfl)
  · have : i = x.length := by simp at h; omega
    subst this
    rw [List.take_length] at hc
    refine ⟨close_int ?_, trivial⟩; rw [List.take_length]; have := szF_or (wL DStored.wt x) left; omega
theorem toStoredS_c (x : List DStored) (h : wL DStored.wt x ≤ 1048576) : Fun1 Try.prog 88 [.one (.row true 3 (x.map DStored.enc))] (.one (.row true 3 (x.map DStored.enc))) := by
  have hw : wL DStored.wt x = x.length + (x.map DStored.wt).sum := rfl
  refine fun1_of_vc tb_ok mix (fn := Try.f88) Try.func88 rfl (by kernel_rfl) (by kernel_rfl) (by simp [Try.f88]) (by show AV.nb (4 + 1) _ = true; exact nb_map (n := 4) (fun y => DStored.enc_nbn 4 y) _) ?_
  (conv => whnf)
  refine ⟨x.length, by simp, Int.le_refl _, by simp; omega, by simp [maxLen]; omega, ?_⟩; (conv => whnf)
  refine ⟨LG (fun i : Nat => i ≤ x.length) (fun i => x.length - i) (fun i => AS.of [(0, .one (.row true 3 (x.map DStored.enc))), (3, .one (.loc 112 0 x.length)), (4, .one (.lit (.int .i64 (i : Nat))))] [(112, .row true 3 ((x.take i).map DStored.enc ++ List.replicate (x.length - i) [.lit (.string .empty), .lit (.string .empty), .lit (.int .i64 0)]))]), lg_init 0 (by omega) (weak_of (by repeat (first | refine all_cons (by first | rfl | exact eq_int rfl (by first | rfl | omega | (simp; done) | (simp; omega)) | exact eq_loc rfl (by first | rfl | omega | (simp; done) | (simp; omega)) | exact eq_bool rfl (by simp_all)) ?_ | exact all_nil)) (by exact all_cons (eq_row rfl (by simp)) all_nil) rfl rfl), ?_⟩
  rintro σ k ⟨i, hi, rfl, rfl⟩
  refine ⟨_, Weak.refl _, ?_⟩
  by_cases hlt : i < x.length
  · have hd : List.replicate (x.length - i) ([.lit (.string .empty), .lit (.string .empty), .lit (.int .i64 0)] : List AV) = [.lit (.string .empty), .lit (.string .empty), .lit (.int .i64 0)] :: List.replicate (x.length - (i + 1)) [.lit (.string .empty), .lit (.string .empty), .lit (.int .i64 0)] := by rw [show x.length - i = (x.length - (i + 1)) + 1 by omega]; rfl
    have hml : ((x.take i).map DStored.enc).length = 0 + i := by simp; omega
    have hts : (x.take (i + 1)).map DStored.enc = (x.take i).map DStored.enc ++ [DStored.enc x[i]] := by rw [List.take_succ_eq_append_getElem hlt, List.map_append]; rfl
    have hwi : DStored.wt x[i] ≤ wL DStored.wt x := by have h1 := wsum_take_succ (f := DStored.wt) hlt; have h2 := sum_take_le DStored.wt x (i + 1); omega
    have hq : (x.take i).map DStored.enc ++ List.replicate (x.length - i) ([.lit (.string .empty), .lit (.string .empty), .lit (.int .i64 0)] : List AV) = (x.take i).map DStored.enc ++ [.lit (.string .empty), .lit (.string .empty), .lit (.int .i64 0)] :: List.replicate (x.length - (i + 1)) [.lit (.string .empty), .lit (.string .empty), .lit (.int .i64 0)] := by rw [hd]
    (conv => whnf)
    split <;> rename_i hb
    case h_2 => simp at hb; omega
    clear hb; (conv => whnf)
    refine ⟨i, rfl, _, at_map hlt, ?_⟩; (conv => whnf)
    refine ⟨_, _, toStored_c x[i] (by omega), (by repeat' (first | exact lends_nil | exact lend_dead | apply lends_cons | apply lend_agg | apply lend_one | exact all2_nil | apply all2_cons | exact la_lit rfl | exact la_int (by first | rfl | omega) | exact la_row rfl rfl | exact la_loc rfl rfl rfl (by first | rfl | simp [mkL_length]) (by first | rfl | simp) | exact la_nil rfl | apply la_fn rfl | exact lend_same rfl rfl | exact lend_bor rfl rfl)), ?_⟩; (conv => whnf)
    refine ⟨i, rfl, hlt, ?_⟩; (conv => whnf)
    refine ⟨_, at_eq hq hml, ?_⟩; (conv => whnf)
    refine ⟨_, set_eq hq hml, ?_⟩; (conv => whnf)
    refine ⟨((i + 1 : Nat) : Int), by rw [← wrap64_id] <;> omega, ?_⟩; (conv => whnf)
    exact lg_back (i + 1) (by omega) (by (try dsimp only); omega) (weak_of (by repeat (first | refine all_cons (by first | rfl | exact eq_int rfl (by first | rfl | omega | (simp; done) | (simp; omega)) | exact eq_loc rfl (by first | rfl | omega | (simp; done) | (simp; omega)) | exact eq_bool rfl (by simp_all)) ?_ | exact all_nil)) (by exact all_cons (eq_row rfl (by rw [hts]; exact (List.append_assoc _ [_] _).symm)) all_nil) rfl rfl)
  · have : i = x.length := by omega
    subst this
    (conv => whnf)
    split <;> rename_i hb
    case h_1 => simp at hb
    clear hb; (conv => whnf)
    exact ⟨close_row rfl rfl (by simp) (by simp), trivial⟩
theorem eqStoredS_c (x : List DStored) (hl : x.length ≤ 4294967296) (hx : ∀ y ∈ x, y.ok) : Fun1 Try.prog 95 [.one (.row true 3 (x.map DStored.enc)), .one (.row true 3 (x.map DStored.enc))] (.one (.lit (.bool true))) := by
  refine fun1_of_vc tb_ok mix (fn := Try.f95) Try.func95 rfl (by kernel_rfl) (by kernel_rfl) (by simp [Try.f95]) (by rfl) ?_
  (conv => whnf)
  (first | (split <;> rename_i h <;> first | (exfalso; first | (simp at h; done) | (simp at h; omega) | (simp_all; done) | (simp_all; omega)) | (conv => whnf)) | skip)
  refine ⟨LG (fun i : Nat => i ≤ x.length) (fun i => x.length - i) (fun i => AS.of [(0, .one (.row true 3 (x.map DStored.enc))), (1, .one (.row true 3 (x.map DStored.enc))), (5, .one (.lit (.int .i64 (i : Nat))))] []), lg_init 0 (by omega) (weak_of (by repeat (first | refine all_cons (by first | rfl | exact eq_int rfl (by first | rfl | omega | (simp; done) | (simp; omega)) | exact eq_loc rfl (by first | rfl | omega | (simp; done) | (simp; omega)) | exact eq_bool rfl (by simp_all)) ?_ | exact all_nil)) (by repeat (first | refine all_cons (by first | rfl | exact eq_int rfl (by first | rfl | omega | (simp; done) | (simp; omega)) | exact eq_loc rfl (by first | rfl | omega | (simp; done) | (simp; omega)) | exact eq_bool rfl (by simp_all)) ?_ | exact all_nil)) rfl rfl), ?_⟩
  rintro σ k ⟨i, hi, rfl, rfl⟩
  refine ⟨_, Weak.refl _, ?_⟩
  (conv => whnf)
  (split <;> rename_i h <;> (try simp only [decide_eq_true_eq, decide_eq_false_iff_not, Bool.not_eq_true', Bool.not_eq_false', Bool.not_eq_true, Bool.not_eq_false, List.length_map] at h) <;> conv => whnf)
  · have hlt : i < x.length := by simpa using h
    refine ⟨i, rfl, _, at_map hlt, ?_⟩; (conv => whnf)
    refine ⟨i, rfl, _, at_map hlt, ?_⟩; (conv => whnf)
    have hy := hx x[i] (List.getElem_mem hlt)
    refine ⟨_, _, eqStored_c x[i] hy, (by repeat' (first | exact lends_nil | exact lend_dead | apply lends_cons | apply lend_agg | apply lend_one | exact all2_nil | apply all2_cons | exact la_lit rfl | exact la_int (by first | rfl | omega) | exact la_row rfl rfl | exact la_loc rfl rfl rfl (by first | rfl | simp [mkL_length]) (by first | rfl | simp) | exact la_nil rfl | apply la_fn rfl | exact lend_same rfl rfl | exact lend_bor rfl rfl)), ?_⟩; (conv => whnf)
    refine ⟨((i + 1 : Nat) : Int), by rw [← wrap64_id] <;> omega, ?_⟩; (conv => whnf)
    exact lg_back (i + 1) (by omega) (by (try dsimp only); omega) (weak_of (by repeat (first | refine all_cons (by first | rfl | exact eq_int rfl (by first | rfl | omega | (simp; done) | (simp; omega)) | exact eq_loc rfl (by first | rfl | omega | (simp; done) | (simp; omega)) | exact eq_bool rfl (by simp_all)) ?_ | exact all_nil)) (by repeat (first | refine all_cons (by first | rfl | exact eq_int rfl (by first | rfl | omega | (simp; done) | (simp; omega)) | exact eq_loc rfl (by first | rfl | omega | (simp; done) | (simp; omega)) | exact eq_bool rfl (by simp_all)) ?_ | exact all_nil)) rfl rfl)
  · exact (by repeat' (first | exact trivial | exact close_int rfl | exact close_str rfl | exact close_bool rfl | exact close_int (by omega) | exact close_row rfl rfl (by first | rfl | simp) (by first | rfl | simp) | exact close_nil (by first | rfl | simp) | exact rfl | apply And.intro | apply closeTs_cons rfl))
theorem szDrive_c (x : DDrive) (left : Int) (hx : x.it) (h0 : 0 ≤ left) (h1 : left ≤ 1048576) : Fun1 Try.prog 15 [.agg x.enc, .one (.lit (.int .i64 left))] (.one (.lit (.int .i64 (szF x.wt left)))) := by
  unfold DDrive.it at hx
  obtain ⟨hx0, hx1⟩ := hx
  have hw : x.wt = wL DStored.wt x.files := rfl
  refine fun1_of_vc tb_ok mix (fn := Try.f15) Try.func15 rfl (by kernel_rfl) (by kernel_rfl) (by simp [Try.f15]) (by rfl) ?_
  (conv => whnf)
  have hs0 := szF_or (wL DStored.wt x.files) (left)
  refine ⟨_, _, szStoredS_c x.files (left) hx0.1 hx0.2 (by omega) (by omega), (by repeat' (first | exact lends_nil | exact lend_dead | apply lends_cons | apply lend_agg | apply lend_one | exact all2_nil | apply all2_cons | exact la_lit rfl | exact la_int (by first | rfl | omega) | exact la_row rfl rfl | exact la_loc rfl rfl rfl (by first | rfl | simp [mkL_length]) (by first | rfl | simp) | exact la_nil rfl | apply la_fn rfl | exact lend_same rfl rfl | exact lend_bor rfl rfl)), ?_⟩; (conv => whnf)
  (split <;> rename_i h <;> (try simp only [decide_eq_true_eq, decide_eq_false_iff_not, Bool.not_eq_true', Bool.not_eq_false', Bool.not_eq_true, Bool.not_eq_false, List.length_map] at h) <;> conv => whnf)
  · refine ⟨close_int ?_, trivial⟩; have := szF_or x.wt left; omega
  refine ⟨close_int ?_, trivial⟩; have := szF_or x.wt left; omega
theorem toDrive_c (x : DDrive) (h : x.wt ≤ 1048576) : Fun1 Try.prog 17 [.agg x.enc] (.agg x.enc) := by
  have hw : x.wt = wL DStored.wt x.files := rfl
  refine fun1_of_vc tb_ok mix (fn := Try.f17) Try.func17 rfl (by kernel_rfl) (by kernel_rfl) (by simp [Try.f17]) (by exact DDrive.enc_nb _) ?_
  (conv => whnf)
  refine ⟨_, _, toStoredS_c x.files (by omega), (by repeat' (first | exact lends_nil | exact lend_dead | apply lends_cons | apply lend_agg | apply lend_one | exact all2_nil | apply all2_cons | exact la_lit rfl | exact la_int (by first | rfl | omega) | exact la_row rfl rfl | exact la_loc rfl rfl rfl (by first | rfl | simp [mkL_length]) (by first | rfl | simp) | exact la_nil rfl | apply la_fn rfl | exact lend_same rfl rfl | exact lend_bor rfl rfl)), ?_⟩; (conv => whnf)
  exact (by repeat' (first | exact trivial | exact close_int rfl | exact close_str rfl | exact close_bool rfl | exact close_int (by omega) | exact close_row rfl rfl (by first | rfl | simp) (by first | rfl | simp) | exact close_nil (by first | rfl | simp) | exact rfl | apply And.intro | apply closeTs_cons rfl))
theorem eqDrive_c (x : DDrive) (hx : x.ok) : Fun1 Try.prog 19 [.agg x.enc, .agg x.enc] (.one (.lit (.bool true))) := by
  unfold DDrive.ok at hx
  obtain ⟨hx0, hx1⟩ := hx
  refine fun1_of_vc tb_ok mix (fn := Try.f19) Try.func19 rfl (by kernel_rfl) (by kernel_rfl) (by simp [Try.f19]) (by rfl) ?_
  (conv => whnf)
  refine ⟨_, _, eqStoredS_c x.files hx0.1 hx0.2, (by repeat' (first | exact lends_nil | exact lend_dead | apply lends_cons | apply lend_agg | apply lend_one | exact all2_nil | apply all2_cons | exact la_lit rfl | exact la_int (by first | rfl | omega) | exact la_row rfl rfl | exact la_loc rfl rfl rfl (by first | rfl | simp [mkL_length]) (by first | rfl | simp) | exact la_nil rfl | apply la_fn rfl | exact lend_same rfl rfl | exact lend_bor rfl rfl)), ?_⟩; (conv => whnf)
  (first | (split <;> rename_i h <;> first | (exfalso; first | (simp at h; done) | (simp at h; omega) | (simp_all; done) | (simp_all; omega)) | (conv => whnf)) | skip)
  exact (by repeat' (first | exact trivial | exact close_int rfl | exact close_str rfl | exact close_bool rfl | exact close_int (by omega) | exact close_row rfl rfl (by first | rfl | simp) (by first | rfl | simp) | exact close_nil (by first | rfl | simp) | exact rfl | apply And.intro | apply closeTs_cons rfl))
theorem szDriveS_c (x : List DDrive) (left : Int) (hl : x.length ≤ 9223372036854775807) (hx : ∀ y ∈ x, y.it) (h0 : 0 ≤ left) (h1 : left ≤ 1048576) : Fun1 Try.prog 98 [.one (.row true 2 (x.map DDrive.enc)), .one (.lit (.int .i64 left))] (.one (.lit (.int .i64 (szF (wL DDrive.wt x) left)))) := by
  have hw : wL DDrive.wt x = x.length + (x.map DDrive.wt).sum := rfl
  refine fun1_of_vc tb_ok mix (fn := Try.f98) Try.func98 rfl (by kernel_rfl) (by kernel_rfl) (by simp [Try.f98]) (by rfl) ?_
  (conv => whnf)
  refine ⟨left - (x.length : Nat), by rw [List.length_map]; exact wrap64_id (by omega) (by omega), ?_⟩; (conv => whnf)
  (split <;> rename_i h <;> (try simp only [decide_eq_true_eq, decide_eq_false_iff_not, Bool.not_eq_true', Bool.not_eq_false', Bool.not_eq_true, Bool.not_eq_false, List.length_map] at h) <;> conv => whnf)
  · refine ⟨close_int ?_, trivial⟩; have := szF_or (wL DDrive.wt x) left; omega
  refine ⟨LG (fun i : Nat => i ≤ x.length ∧ ((x.length + ((x.take i).map DDrive.wt).sum : Nat) : Int) ≤ left) (fun i => x.length - i) (fun i => AS.of [(0, .one (.row true 2 (x.map DDrive.enc))), (1, .one (.lit (.int .i64 (left - ((x.length + ((x.take i).map DDrive.wt).sum : Nat) : Int))))), (5, .one (.lit (.int .i64 (i : Nat))))] []), lg_init 0 ⟨by omega, by simp; omega⟩ (weak_of (by refine all_cons rfl (all_cons (eq_int rfl (by simp)) (all_cons rfl all_nil))) all_nil rfl rfl), ?_⟩
  rintro σ k ⟨i, ⟨hi, hc⟩, rfl, rfl⟩
  refine ⟨_, Weak.refl _, ?_⟩
  (conv => whnf)
  (split <;> rename_i h <;> (try simp only [decide_eq_true_eq, decide_eq_false_iff_not, Bool.not_eq_true', Bool.not_eq_false', Bool.not_eq_true, Bool.not_eq_false, List.length_map] at h) <;> conv => whnf)
  · have hlt : i < x.length := by simpa using h
    have hs := wsum_take_succ (f := DDrive.wt) hlt
    have hle := sum_take_le DDrive.wt x (i + 1)
    refine ⟨i, rfl, _, at_map hlt, ?_⟩; (conv => whnf)
    have hy := hx x[i] (List.getElem_mem hlt)
    have hq := szF_or (x[i].wt) (left - ((x.length + ((x.take i).map DDrive.wt).sum : Nat) : Int))
    refine ⟨_, _, szDrive_c x[i] (left - ((x.length + ((x.take i).map DDrive.wt).sum : Nat) : Int)) hy (by omega) (by omega), (by repeat' (first | exact lends_nil | exact lend_dead | apply lends_cons | apply lend_agg | apply lend_one | exact all2_nil | apply all2_cons | exact la_lit rfl | exact la_int (by first | rfl | omega) | exact la_row rfl rfl | exact la_loc rfl rfl rfl (by first | rfl | simp [mkL_length]) (by first | rfl | simp) | exact la_nil rfl | apply la_fn rfl | exact lend_same rfl rfl | exact lend_bor rfl rfl)), ?_⟩; (conv => whnf)
    (split <;> rename_i h2 <;> (try simp only [decide_eq_true_eq, decide_eq_false_iff_not, Bool.not_eq_true', Bool.not_eq_false', Bool.not_eq_true, Bool.not_eq_false, List.length_map] at h2) <;> conv => whnf)
    · refine ⟨close_int ?_, trivial⟩; have := szF_or (wL DDrive.wt x) left; omega
    refine ⟨((i + 1 : Nat) : Int), by rw [← wrap64_id] <;> omega, ?_⟩; (conv => whnf)
    exact lg_back (i + 1) ⟨by omega, by omega⟩ (by (try dsimp only); omega) (weak_of (by refine all_cons rfl (all_cons (eq_int rfl (by omega)) (all_cons rfl all_nil))) all_nil rfl rfl)
  · have : i = x.length := by simp at h; omega
    subst this
    rw [List.take_length] at hc
    refine ⟨close_int ?_, trivial⟩; rw [List.take_length]; have := szF_or (wL DDrive.wt x) left; omega
theorem toDriveS_c (x : List DDrive) (h : wL DDrive.wt x ≤ 1048576) : Fun1 Try.prog 101 [.one (.row true 2 (x.map DDrive.enc))] (.one (.row true 2 (x.map DDrive.enc))) := by
  have hw : wL DDrive.wt x = x.length + (x.map DDrive.wt).sum := rfl
  refine fun1_of_vc tb_ok mix (fn := Try.f101) Try.func101 rfl (by kernel_rfl) (by kernel_rfl) (by simp [Try.f101]) (by show AV.nb (4 + 1) _ = true; exact nb_map (n := 4) (fun y => DDrive.enc_nbn 3 y) _) ?_
  (conv => whnf)
  refine ⟨x.length, by simp, Int.le_refl _, by simp; omega, by simp [maxLen]; omega, ?_⟩; (conv => whnf)
  refine ⟨LG (fun i : Nat => i ≤ x.length) (fun i => x.length - i) (fun i => AS.of [(0, .one (.row true 2 (x.map DDrive.enc))), (3, .one (.loc 112 0 x.length)), (4, .one (.lit (.int .i64 (i : Nat))))] [(112, .row true 2 ((x.take i).map DDrive.enc ++ List.replicate (x.length - i) [.lit (.slice none 0 0), .lit (.int .i64 0)]))]), lg_init 0 (by omega) (weak_of (by repeat (first | refine all_cons (by first | rfl | exact eq_int rfl (by first | rfl | omega | (simp; done) | (simp; omega)) | exact eq_loc rfl (by first | rfl | omega | (simp; done) | (simp; omega)) | exact eq_bool rfl (by simp_all)) ?_ | exact all_nil)) (by exact all_cons (eq_row rfl (by simp)) all_nil) rfl rfl), ?_⟩
  rintro σ k ⟨i, hi, rfl, rfl⟩
  refine ⟨_, Weak.refl _, ?_⟩
  by_cases hlt : i < x.length
  · have hd : List.replicate (x.length - i) ([.lit (.slice none 0 0), .lit (.int .i64 0)] : List AV) = [.lit (.slice none 0 0), .lit (.int .i64 0)] :: List.replicate (x.length - (i + 1)) [.lit (.slice none 0 0), .lit (.int .i64 0)] := by rw [show x.length - i = (x.length - (i + 1)) + 1 by omega]; rfl
    have hml : ((x.take i).map DDrive.enc).length = 0 + i := by simp; omega
    have hts : (x.take (i + 1)).map DDrive.enc = (x.take i).map DDrive.enc ++ [DDrive.enc x[i]] := by rw [List.take_succ_eq_append_getElem hlt, List.map_append]; rfl
    have hwi : DDrive.wt x[i] ≤ wL DDrive.wt x := by have h1 := wsum_take_succ (f := DDrive.wt) hlt; have h2 := sum_take_le DDrive.wt x (i + 1); omega
    have hq : (x.take i).map DDrive.enc ++ List.replicate (x.length - i) ([.lit (.slice none 0 0), .lit (.int .i64 0)] : List AV) = (x.take i).map DDrive.enc ++ [.lit (.slice none 0 0), .lit (.int .i64 0)] :: List.replicate (x.length - (i + 1)) [.lit (.slice none 0 0), .lit (.int .i64 0)] := by rw [hd]
    (conv => whnf)
    split <;> rename_i hb
    case h_2 => simp at hb; omega
    clear hb; (conv => whnf)
    refine ⟨i, rfl, _, at_map hlt, ?_⟩; (conv => whnf)
    refine ⟨_, _, toDrive_c x[i] (by omega), (by repeat' (first | exact lends_nil | exact lend_dead | apply lends_cons | apply lend_agg | apply lend_one | exact all2_nil | apply all2_cons | exact la_lit rfl | exact la_int (by first | rfl | omega) | exact la_row rfl rfl | exact la_loc rfl rfl rfl (by first | rfl | simp [mkL_length]) (by first | rfl | simp) | exact la_nil rfl | apply la_fn rfl | exact lend_same rfl rfl | exact lend_bor rfl rfl)), ?_⟩; (conv => whnf)
    refine ⟨i, rfl, hlt, ?_⟩; (conv => whnf)
    refine ⟨_, at_eq hq hml, ?_⟩; (conv => whnf)
    refine ⟨_, set_eq hq hml, ?_⟩; (conv => whnf)
    refine ⟨((i + 1 : Nat) : Int), by rw [← wrap64_id] <;> omega, ?_⟩; (conv => whnf)
    exact lg_back (i + 1) (by omega) (by (try dsimp only); omega) (weak_absorb (r := 112) (s := 320) ((x.take i).map DDrive.enc) (List.replicate (x.length - (i + 1)) [.lit (.slice none 0 0), .lit (.int .i64 0)]) [] [.lit (.int .i64 x[i].room)] (es2 := x[i].files.map DStored.enc) (by decide) rfl rfl (cellRow_map (fun y => rfl) _) (by simp [cellRow, AV.isCell]) rfl rfl (weak_of (by repeat (first | refine all_cons (by first | rfl | exact eq_int rfl (by first | rfl | omega | (simp; done) | (simp; omega)) | exact eq_loc rfl (by first | rfl | omega | (simp; done) | (simp; omega)) | exact eq_bool rfl (by simp_all)) ?_ | exact all_nil)) (by exact all_cons (eq_row rfl (by rw [hts]; exact (List.append_assoc _ [_] _).symm)) all_nil) rfl rfl))
  · have : i = x.length := by omega
    subst this
    (conv => whnf)
    split <;> rename_i hb
    case h_1 => simp at hb
    clear hb; (conv => whnf)
    exact ⟨close_row rfl rfl (by simp) (by simp), trivial⟩
theorem eqDriveS_c (x : List DDrive) (hl : x.length ≤ 4294967296) (hx : ∀ y ∈ x, y.ok) : Fun1 Try.prog 105 [.one (.row true 2 (x.map DDrive.enc)), .one (.row true 2 (x.map DDrive.enc))] (.one (.lit (.bool true))) := by
  refine fun1_of_vc tb_ok mix (fn := Try.f105) Try.func105 rfl (by kernel_rfl) (by kernel_rfl) (by simp [Try.f105]) (by rfl) ?_
  (conv => whnf)
  (first | (split <;> rename_i h <;> first | (exfalso; first | (simp at h; done) | (simp at h; omega) | (simp_all; done) | (simp_all; omega)) | (conv => whnf)) | skip)
  refine ⟨LG (fun i : Nat => i ≤ x.length) (fun i => x.length - i) (fun i => AS.of [(0, .one (.row true 2 (x.map DDrive.enc))), (1, .one (.row true 2 (x.map DDrive.enc))), (5, .one (.lit (.int .i64 (i : Nat))))] []), lg_init 0 (by omega) (weak_of (by repeat (first | refine all_cons (by first | rfl | exact eq_int rfl (by first | rfl | omega | (simp; done) | (simp; omega)) | exact eq_loc rfl (by first | rfl | omega | (simp; done) | (simp; omega)) | exact eq_bool rfl (by simp_all)) ?_ | exact all_nil)) (by repeat (first | refine all_cons (by first | rfl | exact eq_int rfl (by first | rfl | omega | (simp; done) | (simp; omega)) | exact eq_loc rfl (by first | rfl | omega | (simp; done) | (simp; omega)) | exact eq_bool rfl (by simp_all)) ?_ | exact all_nil)) rfl rfl), ?_⟩
  rintro σ k ⟨i, hi, rfl, rfl⟩
  refine ⟨_, Weak.refl _, ?_⟩
  (conv => whnf)
  (split <;> rename_i h <;> (try simp only [decide_eq_true_eq, decide_eq_false_iff_not, Bool.not_eq_true', Bool.not_eq_false', Bool.not_eq_true, Bool.not_eq_false, List.length_map] at h) <;> conv => whnf)
  · have hlt : i < x.length := by simpa using h
    refine ⟨i, rfl, _, at_map hlt, ?_⟩; (conv => whnf)
    refine ⟨i, rfl, _, at_map hlt, ?_⟩; (conv => whnf)
    have hy := hx x[i] (List.getElem_mem hlt)
    refine ⟨_, _, eqDrive_c x[i] hy, (by repeat' (first | exact lends_nil | exact lend_dead | apply lends_cons | apply lend_agg | apply lend_one | exact all2_nil | apply all2_cons | exact la_lit rfl | exact la_int (by first | rfl | omega) | exact la_row rfl rfl | exact la_loc rfl rfl rfl (by first | rfl | simp [mkL_length]) (by first | rfl | simp) | exact la_nil rfl | apply la_fn rfl | exact lend_same rfl rfl | exact lend_bor rfl rfl)), ?_⟩; (conv => whnf)
    refine ⟨((i + 1 : Nat) : Int), by rw [← wrap64_id] <;> omega, ?_⟩; (conv => whnf)
    exact lg_back (i + 1) (by omega) (by (try dsimp only); omega) (weak_of (by repeat (first | refine all_cons (by first | rfl | exact eq_int rfl (by first | rfl | omega | (simp; done) | (simp; omega)) | exact eq_loc rfl (by first | rfl | omega | (simp; done) | (simp; omega)) | exact eq_bool rfl (by simp_all)) ?_ | exact all_nil)) (by repeat (first | refine all_cons (by first | rfl | exact eq_int rfl (by first | rfl | omega | (simp; done) | (simp; omega)) | exact eq_loc rfl (by first | rfl | omega | (simp; done) | (simp; omega)) | exact eq_bool rfl (by simp_all)) ?_ | exact all_nil)) rfl rfl)
  · exact (by repeat' (first | exact trivial | exact close_int rfl | exact close_str rfl | exact close_bool rfl | exact close_int (by omega) | exact close_row rfl rfl (by first | rfl | simp) (by first | rfl | simp) | exact close_nil (by first | rfl | simp) | exact rfl | apply And.intro | apply closeTs_cons rfl))
theorem szArray_c (x : DArray) (left : Int) (hx : x.it) (h0 : 0 ≤ left) (h1 : left ≤ 1048576) : Fun1 Try.prog 22 [.agg x.enc, .one (.lit (.int .i64 left))] (.one (.lit (.int .i64 (szF x.wt left)))) := by
  unfold DArray.it at hx
  obtain ⟨hx0, hx1, hx2⟩ := hx
  have hw : x.wt = wL DDrive.wt x.drives := rfl
  refine fun1_of_vc tb_ok mix (fn := Try.f22) Try.func22 rfl (by kernel_rfl) (by kernel_rfl) (by simp [Try.f22]) (by rfl) ?_
  (conv => whnf)
  have hs2 := szF_or (wL DDrive.wt x.drives) (left)
  refine ⟨_, _, szDriveS_c x.drives (left) hx2.1 hx2.2 (by omega) (by omega), (by repeat' (first | exact lends_nil | exact lend_dead | apply lends_cons | apply lend_agg | apply lend_one | exact all2_nil | apply all2_cons | exact la_lit rfl | exact la_int (by first | rfl | omega) | exact la_row rfl rfl | exact la_loc rfl rfl rfl (by first | rfl | simp [mkL_length]) (by first | rfl | simp) | exact la_nil rfl | apply la_fn rfl | exact lend_same rfl rfl | exact lend_bor rfl rfl)), ?_⟩; (conv => whnf)
  (split <;> rename_i h <;> (try simp only [decide_eq_true_eq, decide_eq_false_iff_not, Bool.not_eq_true', Bool.not_eq_false', Bool.not_eq_true, Bool.not_eq_false, List.length_map] at h) <;> conv => whnf)
  · refine ⟨close_int ?_, trivial⟩; have := szF_or x.wt left; omega
  refine ⟨close_int ?_, trivial⟩; have := szF_or x.wt left; omega
theorem toArray_c (x : DArray) (h : x.wt ≤ 1048576) : Fun1 Try.prog 24 [.agg x.enc] (.agg x.enc) := by
  have hw : x.wt = wL DDrive.wt x.drives := rfl
  refine fun1_of_vc tb_ok mix (fn := Try.f24) Try.func24 rfl (by kernel_rfl) (by kernel_rfl) (by simp [Try.f24]) (by exact DArray.enc_nb _) ?_
  (conv => whnf)
  refine ⟨_, _, toDriveS_c x.drives (by omega), (by repeat' (first | exact lends_nil | exact lend_dead | apply lends_cons | apply lend_agg | apply lend_one | exact all2_nil | apply all2_cons | exact la_lit rfl | exact la_int (by first | rfl | omega) | exact la_row rfl rfl | exact la_loc rfl rfl rfl (by first | rfl | simp [mkL_length]) (by first | rfl | simp) | exact la_nil rfl | apply la_fn rfl | exact lend_same rfl rfl | exact lend_bor rfl rfl)), ?_⟩; (conv => whnf)
  exact (by repeat' (first | exact trivial | exact close_int rfl | exact close_str rfl | exact close_bool rfl | exact close_int (by omega) | exact close_row rfl rfl (by first | rfl | simp) (by first | rfl | simp) | exact close_nil (by first | rfl | simp) | exact rfl | apply And.intro | apply closeTs_cons rfl))
theorem eqArray_c (x : DArray) (hx : x.ok) : Fun1 Try.prog 27 [.agg x.enc, .agg x.enc] (.one (.lit (.bool true))) := by
  unfold DArray.ok at hx
  obtain ⟨hx0, hx1, hx2⟩ := hx
  refine fun1_of_vc tb_ok mix (fn := Try.f27) Try.func27 rfl (by kernel_rfl) (by kernel_rfl) (by simp [Try.f27]) (by rfl) ?_
  (conv => whnf)
  (first | (split <;> rename_i h <;> first | (exfalso; first | (simp at h; done) | (simp at h; omega) | (simp_all; done) | (simp_all; omega)) | (conv => whnf)) | skip)
  (first | (split <;> rename_i h <;> first | (exfalso; first | (simp at h; done) | (simp at h; omega) | (simp_all; done) | (simp_all; omega)) | (conv => whnf)) | skip)
  refine ⟨_, _, eqDriveS_c x.drives hx2.1 hx2.2, (by repeat' (first | exact lends_nil | exact lend_dead | apply lends_cons | apply lend_agg | apply lend_one | exact all2_nil | apply all2_cons | exact la_lit rfl | exact la_int (by first | rfl | omega) | exact la_row rfl rfl | exact la_loc rfl rfl rfl (by first | rfl | simp [mkL_length]) (by first | rfl | simp) | exact la_nil rfl | apply la_fn rfl | exact lend_same rfl rfl | exact lend_bor rfl rfl)), ?_⟩; (conv => whnf)
  exact (by repeat' (first | exact trivial | exact close_int rfl | exact close_str rfl | exact close_bool rfl | exact close_int (by omega) | exact close_row rfl rfl (by first | rfl | simp) (by first | rfl | simp) | exact close_nil (by first | rfl | simp) | exact rfl | apply And.intro | apply closeTs_cons rfl))
theorem szOp_c (x : DOp) (left : Int) (hx : x.it) (h0 : 0 ≤ left) (h1 : left ≤ 1048576) : Fun1 Try.prog 48 [.agg x.enc, .one (.lit (.int .i64 left))] (.one (.lit (.int .i64 (szF x.wt left)))) := by
  unfold DOp.it at hx
  obtain ⟨hx0, hx1, hx2, hx3⟩ := hx
  have hw : x.wt = x.name.size + x.to.size + x.text.size := rfl
  refine fun1_of_vc tb_ok mix (fn := Try.f48) Try.func48 rfl (by kernel_rfl) (by kernel_rfl) (by simp [Try.f48]) (by rfl) ?_
  (conv => whnf)
  refine ⟨left - (x.name.size : Nat), wrap64_id (by omega) (by omega), ?_⟩; (conv => whnf)
  (split <;> rename_i h <;> (try simp only [decide_eq_true_eq, decide_eq_false_iff_not, Bool.not_eq_true', Bool.not_eq_false', Bool.not_eq_true, Bool.not_eq_false, List.length_map] at h) <;> conv => whnf)
  · refine ⟨close_int ?_, trivial⟩; have := szF_or x.wt left; omega
  refine ⟨left - (x.name.size : Nat) - (x.to.size : Nat), wrap64_id (by omega) (by omega), ?_⟩; (conv => whnf)
  (split <;> rename_i h <;> (try simp only [decide_eq_true_eq, decide_eq_false_iff_not, Bool.not_eq_true', Bool.not_eq_false', Bool.not_eq_true, Bool.not_eq_false, List.length_map] at h) <;> conv => whnf)
  · refine ⟨close_int ?_, trivial⟩; have := szF_or x.wt left; omega
  refine ⟨left - (x.name.size : Nat) - (x.to.size : Nat) - (x.text.size : Nat), wrap64_id (by omega) (by omega), ?_⟩; (conv => whnf)
  (split <;> rename_i h <;> (try simp only [decide_eq_true_eq, decide_eq_false_iff_not, Bool.not_eq_true', Bool.not_eq_false', Bool.not_eq_true, Bool.not_eq_false, List.length_map] at h) <;> conv => whnf)
  · refine ⟨close_int ?_, trivial⟩; have := szF_or x.wt left; omega
  refine ⟨close_int ?_, trivial⟩; have := szF_or x.wt left; omega
theorem toOp_c (x : DOp) (h : x.wt ≤ 1048576) : Fun1 Try.prog 49 [.agg x.enc] (.agg x.enc) := by
  have hw : x.wt = x.name.size + x.to.size + x.text.size := rfl
  refine fun1_of_vc tb_ok mix (fn := Try.f49) Try.func49 rfl (by kernel_rfl) (by kernel_rfl) (by simp [Try.f49]) (by exact DOp.enc_nb _) ?_
  (conv => whnf)
  exact (by repeat' (first | exact trivial | exact close_int rfl | exact close_str rfl | exact close_bool rfl | exact close_int (by omega) | exact close_row rfl rfl (by first | rfl | simp) (by first | rfl | simp) | exact close_nil (by first | rfl | simp) | exact rfl | apply And.intro | apply closeTs_cons rfl))
theorem eqOp_c (x : DOp) (hx : x.ok) : Fun1 Try.prog 184 [.agg x.enc, .agg x.enc] (.one (.lit (.bool true))) := by
  unfold DOp.ok at hx
  obtain ⟨hx0, hx1, hx2, hx3⟩ := hx
  refine fun1_of_vc tb_ok mix (fn := Try.f184) Try.func184 rfl (by kernel_rfl) (by kernel_rfl) (by simp [Try.f184]) (by rfl) ?_
  (conv => whnf)
  (first | (split <;> rename_i h <;> first | (exfalso; first | (simp at h; done) | (simp at h; omega) | (simp_all; done) | (simp_all; omega)) | (conv => whnf)) | skip)
  (first | (split <;> rename_i h <;> first | (exfalso; first | (simp at h; done) | (simp at h; omega) | (simp_all; done) | (simp_all; omega)) | (conv => whnf)) | skip)
  (first | (split <;> rename_i h <;> first | (exfalso; first | (simp at h; done) | (simp at h; omega) | (simp_all; done) | (simp_all; omega)) | (conv => whnf)) | skip)
  (first | (split <;> rename_i h <;> first | (exfalso; first | (simp at h; done) | (simp at h; omega) | (simp_all; done) | (simp_all; omega)) | (conv => whnf)) | skip)
  exact (by repeat' (first | exact trivial | exact close_int rfl | exact close_str rfl | exact close_bool rfl | exact close_int (by omega) | exact close_row rfl rfl (by first | rfl | simp) (by first | rfl | simp) | exact close_nil (by first | rfl | simp) | exact rfl | apply And.intro | apply closeTs_cons rfl))
theorem szStep_c (x : DStep) (left : Int) (hx : x.it) (h0 : 0 ≤ left) (h1 : left ≤ 1048576) : Fun1 Try.prog 162 [.agg x.enc, .one (.lit (.int .i64 left))] (.one (.lit (.int .i64 (szF x.wt left)))) := by
  unfold DStep.it at hx
  obtain ⟨hx0, hx1⟩ := hx
  have hw : x.wt = x.op.wt := rfl
  refine fun1_of_vc tb_ok mix (fn := Try.f162) Try.func162 rfl (by kernel_rfl) (by kernel_rfl) (by simp [Try.f162]) (by rfl) ?_
  (conv => whnf)
  have hs1 := szF_or (x.op.wt) (left)
  refine ⟨_, _, szOp_c x.op (left) hx1 (by omega) (by omega), (by repeat' (first | exact lends_nil | exact lend_dead | apply lends_cons | apply lend_agg | apply lend_one | exact all2_nil | apply all2_cons | exact la_lit rfl | exact la_int (by first | rfl | omega) | exact la_row rfl rfl | exact la_loc rfl rfl rfl (by first | rfl | simp [mkL_length]) (by first | rfl | simp) | exact la_nil rfl | apply la_fn rfl | exact lend_same rfl rfl | exact lend_bor rfl rfl)), ?_⟩; (conv => whnf)
  (split <;> rename_i h <;> (try simp only [decide_eq_true_eq, decide_eq_false_iff_not, Bool.not_eq_true', Bool.not_eq_false', Bool.not_eq_true, Bool.not_eq_false, List.length_map] at h) <;> conv => whnf)
  · refine ⟨close_int ?_, trivial⟩; have := szF_or x.wt left; omega
  refine ⟨close_int ?_, trivial⟩; have := szF_or x.wt left; omega
theorem toStep_c (x : DStep) (h : x.wt ≤ 1048576) : Fun1 Try.prog 165 [.agg x.enc] (.agg x.enc) := by
  have hw : x.wt = x.op.wt := rfl
  refine fun1_of_vc tb_ok mix (fn := Try.f165) Try.func165 rfl (by kernel_rfl) (by kernel_rfl) (by simp [Try.f165]) (by exact DStep.enc_nb _) ?_
  (conv => whnf)
  refine ⟨_, _, toOp_c x.op (by omega), (by repeat' (first | exact lends_nil | exact lend_dead | apply lends_cons | apply lend_agg | apply lend_one | exact all2_nil | apply all2_cons | exact la_lit rfl | exact la_int (by first | rfl | omega) | exact la_row rfl rfl | exact la_loc rfl rfl rfl (by first | rfl | simp [mkL_length]) (by first | rfl | simp) | exact la_nil rfl | apply la_fn rfl | exact lend_same rfl rfl | exact lend_bor rfl rfl)), ?_⟩; (conv => whnf)
  exact (by repeat' (first | exact trivial | exact close_int rfl | exact close_str rfl | exact close_bool rfl | exact close_int (by omega) | exact close_row rfl rfl (by first | rfl | simp) (by first | rfl | simp) | exact close_nil (by first | rfl | simp) | exact rfl | apply And.intro | apply closeTs_cons rfl))
theorem eqStep_c (x : DStep) (hx : x.ok) : Fun1 Try.prog 104 [.agg x.enc, .agg x.enc] (.one (.lit (.bool true))) := by
  unfold DStep.ok at hx
  obtain ⟨hx0, hx1⟩ := hx
  refine fun1_of_vc tb_ok mix (fn := Try.f104) Try.func104 rfl (by kernel_rfl) (by kernel_rfl) (by simp [Try.f104]) (by rfl) ?_
  (conv => whnf)
  (first | (split <;> rename_i h <;> first | (exfalso; first | (simp at h; done) | (simp at h; omega) | (simp_all; done) | (simp_all; omega)) | (conv => whnf)) | skip)
  refine ⟨_, _, eqOp_c x.op hx1, (by repeat' (first | exact lends_nil | exact lend_dead | apply lends_cons | apply lend_agg | apply lend_one | exact all2_nil | apply all2_cons | exact la_lit rfl | exact la_int (by first | rfl | omega) | exact la_row rfl rfl | exact la_loc rfl rfl rfl (by first | rfl | simp [mkL_length]) (by first | rfl | simp) | exact la_nil rfl | apply la_fn rfl | exact lend_same rfl rfl | exact lend_bor rfl rfl)), ?_⟩; (conv => whnf)
  exact (by repeat' (first | exact trivial | exact close_int rfl | exact close_str rfl | exact close_bool rfl | exact close_int (by omega) | exact close_row rfl rfl (by first | rfl | simp) (by first | rfl | simp) | exact close_nil (by first | rfl | simp) | exact rfl | apply And.intro | apply closeTs_cons rfl))
theorem szStepS_c (x : List DStep) (left : Int) (hl : x.length ≤ 9223372036854775807) (hx : ∀ y ∈ x, y.it) (h0 : 0 ≤ left) (h1 : left ≤ 1048576) : Fun1 Try.prog 77 [.one (.row true 5 (x.map DStep.enc)), .one (.lit (.int .i64 left))] (.one (.lit (.int .i64 (szF (wL DStep.wt x) left)))) := by
  have hw : wL DStep.wt x = x.length + (x.map DStep.wt).sum := rfl
  refine fun1_of_vc tb_ok mix (fn := Try.f77) Try.func77 rfl (by kernel_rfl) (by kernel_rfl) (by simp [Try.f77]) (by rfl) ?_
  (conv => whnf)
  refine ⟨left - (x.length : Nat), by rw [List.length_map]; exact wrap64_id (by omega) (by omega), ?_⟩; (conv => whnf)
  (split <;> rename_i h <;> (try simp only [decide_eq_true_eq, decide_eq_false_iff_not, Bool.not_eq_true', Bool.not_eq_false', Bool.not_eq_true, Bool.not_eq_false, List.length_map] at h) <;> conv => whnf)
  · refine ⟨close_int ?_, trivial⟩; have := szF_or (wL DStep.wt x) left; omega
  refine ⟨LG (fun i : Nat => i ≤ x.length ∧ ((x.length + ((x.take i).map DStep.wt).sum : Nat) : Int) ≤ left) (fun i => x.length - i) (fun i => AS.of [(0, .one (.row true 5 (x.map DStep.enc))), (1, .one (.lit (.int .i64 (left - ((x.length + ((x.take i).map DStep.wt).sum : Nat) : Int))))), (5, .one (.lit (.int .i64 (i : Nat))))] []), lg_init 0 ⟨by omega, by simp; omega⟩ (weak_of (by refine all_cons rfl (all_cons (eq_int rfl (by simp)) (all_cons rfl all_nil))) all_nil rfl rfl), ?_⟩
  rintro σ k ⟨i, ⟨hi, hc⟩, rfl, rfl⟩
  refine ⟨_, Weak.refl _, ?_⟩
  (conv => whnf)
  (split <;> rename_i h <;> (try simp only [decide_eq_true_eq, decide_eq_false_iff_not, Bool.not_eq_true', Bool.not_eq_false', Bool.not_eq_true, Bool.not_eq_false, List.length_map] at h) <;> conv => whnf)
  · have hlt : i < x.length := by simpa using h
    have hs := wsum_take_succ (f := DStep.wt) hlt
    have hle := sum_take_le DStep.wt x (i + 1)
    refine ⟨i, rfl, _, at_map hlt, ?_⟩; (conv => whnf)
    have hy := hx x[i] (List.getElem_mem hlt)
    have hq := szF_or (x[i].wt) (left - ((x.length + ((x.take i).map DStep.wt).sum : Nat) : Int))
    refine ⟨_, _, szStep_c x[i] (left - ((x.length + ((x.take i).map DStep.wt).sum : Nat) : Int)) hy (by omega) (by omega), (by repeat' (first | exact lends_nil | exact lend_dead | apply lends_cons | apply lend_agg | apply lend_one | exact all2_nil | apply all2_cons | exact la_lit rfl | exact la_int (by first | rfl | omega) | exact la_row rfl rfl | exact la_loc rfl rfl rfl (by first | rfl | simp [mkL_length]) (by first | rfl | simp) | exact la_nil rfl | apply la_fn rfl | exact lend_same rfl rfl | exact lend_bor rfl rfl)), ?_⟩; (conv => whnf)
    (split <;> rename_i h2 <;> (try simp only [decide_eq_true_eq, decide_eq_false_iff_not, Bool.not_eq_true', Bool.not_eq_false', Bool.not_eq_true, Bool.not_eq_false, List.length_map] at h2) <;> conv => whnf)
    · refine ⟨close_int ?_, trivial⟩; have := szF_or (wL DStep.wt x) left; omega
    refine ⟨((i + 1 : Nat) : Int), by rw [← wrap64_id] <;> omega, ?_⟩; (conv => whnf)
    exact lg_back (i + 1) ⟨by omega, by omega⟩ (by (try dsimp only); omega) (weak_of (by refine all_cons rfl (all_cons (eq_int rfl (by omega)) (all_cons rfl all_nil))) all_nil rfl rfl)
  · have : i = x.length := by simp at h; omega
    subst this
    rw [List.take_length] at hc
    refine ⟨close_int ?_, trivial⟩; rw [List.take_length]; have := szF_or (wL DStep.wt x) left; omega
theorem toStepS_c (x : List DStep) (h : wL DStep.wt x ≤ 1048576) : Fun1 Try.prog 79 [.one (.row true 5 (x.map DStep.enc))] (.one (.row true 5 (x.map DStep.enc))) := by
  have hw : wL DStep.wt x = x.length + (x.map DStep.wt).sum := rfl
  refine fun1_of_vc tb_ok mix (fn := Try.f79) Try.func79 rfl (by kernel_rfl) (by kernel_rfl) (by simp [Try.f79]) (by show AV.nb (4 + 1) _ = true; exact nb_map (n := 4) (fun y => DStep.enc_nbn 4 y) _) ?_
  (conv => whnf)
  refine ⟨x.length, by simp, Int.le_refl _, by simp; omega, by simp [maxLen]; omega, ?_⟩; (conv => whnf)
  refine ⟨LG (fun i : Nat => i ≤ x.length) (fun i => x.length - i) (fun i => AS.of [(0, .one (.row true 5 (x.map DStep.enc))), (3, .one (.loc 112 0 x.length)), (4, .one (.lit (.int .i64 (i : Nat))))] [(112, .row true 5 ((x.take i).map DStep.enc ++ List.replicate (x.length - i) [.lit (.int .i64 0), .lit (.int .i64 0), .lit (.string .empty), .lit (.string .empty), .lit (.string .empty)]))]), lg_init 0 (by omega) (weak_of (by repeat (first | refine all_cons (by first | rfl | exact eq_int rfl (by first | rfl | omega | (simp; done) | (simp; omega)) | exact eq_loc rfl (by first | rfl | omega | (simp; done) | (simp; omega)) | exact eq_bool rfl (by simp_all)) ?_ | exact all_nil)) (by exact all_cons (eq_row rfl (by simp)) all_nil) rfl rfl), ?_⟩
  rintro σ k ⟨i, hi, rfl, rfl⟩
  refine ⟨_, Weak.refl _, ?_⟩
  by_cases hlt : i < x.length
  · have hd : List.replicate (x.length - i) ([.lit (.int .i64 0), .lit (.int .i64 0), .lit (.string .empty), .lit (.string .empty), .lit (.string .empty)] : List AV) = [.lit (.int .i64 0), .lit (.int .i64 0), .lit (.string .empty), .lit (.string .empty), .lit (.string .empty)] :: List.replicate (x.length - (i + 1)) [.lit (.int .i64 0), .lit (.int .i64 0), .lit (.string .empty), .lit (.string .empty), .lit (.string .empty)] := by rw [show x.length - i = (x.length - (i + 1)) + 1 by omega]; rfl
    have hml : ((x.take i).map DStep.enc).length = 0 + i := by simp; omega
    have hts : (x.take (i + 1)).map DStep.enc = (x.take i).map DStep.enc ++ [DStep.enc x[i]] := by rw [List.take_succ_eq_append_getElem hlt, List.map_append]; rfl
    have hwi : DStep.wt x[i] ≤ wL DStep.wt x := by have h1 := wsum_take_succ (f := DStep.wt) hlt; have h2 := sum_take_le DStep.wt x (i + 1); omega
    have hq : (x.take i).map DStep.enc ++ List.replicate (x.length - i) ([.lit (.int .i64 0), .lit (.int .i64 0), .lit (.string .empty), .lit (.string .empty), .lit (.string .empty)] : List AV) = (x.take i).map DStep.enc ++ [.lit (.int .i64 0), .lit (.int .i64 0), .lit (.string .empty), .lit (.string .empty), .lit (.string .empty)] :: List.replicate (x.length - (i + 1)) [.lit (.int .i64 0), .lit (.int .i64 0), .lit (.string .empty), .lit (.string .empty), .lit (.string .empty)] := by rw [hd]
    (conv => whnf)
    split <;> rename_i hb
    case h_2 => simp at hb; omega
    clear hb; (conv => whnf)
    refine ⟨i, rfl, _, at_map hlt, ?_⟩; (conv => whnf)
    refine ⟨_, _, toStep_c x[i] (by omega), (by repeat' (first | exact lends_nil | exact lend_dead | apply lends_cons | apply lend_agg | apply lend_one | exact all2_nil | apply all2_cons | exact la_lit rfl | exact la_int (by first | rfl | omega) | exact la_row rfl rfl | exact la_loc rfl rfl rfl (by first | rfl | simp [mkL_length]) (by first | rfl | simp) | exact la_nil rfl | apply la_fn rfl | exact lend_same rfl rfl | exact lend_bor rfl rfl)), ?_⟩; (conv => whnf)
    refine ⟨i, rfl, hlt, ?_⟩; (conv => whnf)
    refine ⟨_, at_eq hq hml, ?_⟩; (conv => whnf)
    refine ⟨_, set_eq hq hml, ?_⟩; (conv => whnf)
    refine ⟨((i + 1 : Nat) : Int), by rw [← wrap64_id] <;> omega, ?_⟩; (conv => whnf)
    exact lg_back (i + 1) (by omega) (by (try dsimp only); omega) (weak_of (by repeat (first | refine all_cons (by first | rfl | exact eq_int rfl (by first | rfl | omega | (simp; done) | (simp; omega)) | exact eq_loc rfl (by first | rfl | omega | (simp; done) | (simp; omega)) | exact eq_bool rfl (by simp_all)) ?_ | exact all_nil)) (by exact all_cons (eq_row rfl (by rw [hts]; exact (List.append_assoc _ [_] _).symm)) all_nil) rfl rfl)
  · have : i = x.length := by omega
    subst this
    (conv => whnf)
    split <;> rename_i hb
    case h_1 => simp at hb
    clear hb; (conv => whnf)
    exact ⟨close_row rfl rfl (by simp) (by simp), trivial⟩
theorem eqStepS_c (x : List DStep) (hl : x.length ≤ 4294967296) (hx : ∀ y ∈ x, y.ok) : Fun1 Try.prog 26 [.one (.row true 5 (x.map DStep.enc)), .one (.row true 5 (x.map DStep.enc))] (.one (.lit (.bool true))) := by
  refine fun1_of_vc tb_ok mix (fn := Try.f26) Try.func26 rfl (by kernel_rfl) (by kernel_rfl) (by simp [Try.f26]) (by rfl) ?_
  (conv => whnf)
  (first | (split <;> rename_i h <;> first | (exfalso; first | (simp at h; done) | (simp at h; omega) | (simp_all; done) | (simp_all; omega)) | (conv => whnf)) | skip)
  refine ⟨LG (fun i : Nat => i ≤ x.length) (fun i => x.length - i) (fun i => AS.of [(0, .one (.row true 5 (x.map DStep.enc))), (1, .one (.row true 5 (x.map DStep.enc))), (5, .one (.lit (.int .i64 (i : Nat))))] []), lg_init 0 (by omega) (weak_of (by repeat (first | refine all_cons (by first | rfl | exact eq_int rfl (by first | rfl | omega | (simp; done) | (simp; omega)) | exact eq_loc rfl (by first | rfl | omega | (simp; done) | (simp; omega)) | exact eq_bool rfl (by simp_all)) ?_ | exact all_nil)) (by repeat (first | refine all_cons (by first | rfl | exact eq_int rfl (by first | rfl | omega | (simp; done) | (simp; omega)) | exact eq_loc rfl (by first | rfl | omega | (simp; done) | (simp; omega)) | exact eq_bool rfl (by simp_all)) ?_ | exact all_nil)) rfl rfl), ?_⟩
  rintro σ k ⟨i, hi, rfl, rfl⟩
  refine ⟨_, Weak.refl _, ?_⟩
  (conv => whnf)
  (split <;> rename_i h <;> (try simp only [decide_eq_true_eq, decide_eq_false_iff_not, Bool.not_eq_true', Bool.not_eq_false', Bool.not_eq_true, Bool.not_eq_false, List.length_map] at h) <;> conv => whnf)
  · have hlt : i < x.length := by simpa using h
    refine ⟨i, rfl, _, at_map hlt, ?_⟩; (conv => whnf)
    refine ⟨i, rfl, _, at_map hlt, ?_⟩; (conv => whnf)
    have hy := hx x[i] (List.getElem_mem hlt)
    refine ⟨_, _, eqStep_c x[i] hy, (by repeat' (first | exact lends_nil | exact lend_dead | apply lends_cons | apply lend_agg | apply lend_one | exact all2_nil | apply all2_cons | exact la_lit rfl | exact la_int (by first | rfl | omega) | exact la_row rfl rfl | exact la_loc rfl rfl rfl (by first | rfl | simp [mkL_length]) (by first | rfl | simp) | exact la_nil rfl | apply la_fn rfl | exact lend_same rfl rfl | exact lend_bor rfl rfl)), ?_⟩; (conv => whnf)
    refine ⟨((i + 1 : Nat) : Int), by rw [← wrap64_id] <;> omega, ?_⟩; (conv => whnf)
    exact lg_back (i + 1) (by omega) (by (try dsimp only); omega) (weak_of (by repeat (first | refine all_cons (by first | rfl | exact eq_int rfl (by first | rfl | omega | (simp; done) | (simp; omega)) | exact eq_loc rfl (by first | rfl | omega | (simp; done) | (simp; omega)) | exact eq_bool rfl (by simp_all)) ?_ | exact all_nil)) (by repeat (first | refine all_cons (by first | rfl | exact eq_int rfl (by first | rfl | omega | (simp; done) | (simp; omega)) | exact eq_loc rfl (by first | rfl | omega | (simp; done) | (simp; omega)) | exact eq_bool rfl (by simp_all)) ?_ | exact all_nil)) rfl rfl)
  · exact (by repeat' (first | exact trivial | exact close_int rfl | exact close_str rfl | exact close_bool rfl | exact close_int (by omega) | exact close_row rfl rfl (by first | rfl | simp) (by first | rfl | simp) | exact close_nil (by first | rfl | simp) | exact rfl | apply And.intro | apply closeTs_cons rfl))
theorem toCutting_c (x : DCutting) : Fun1 Try.prog 56 [.agg x.enc] (.agg x.enc) := by
  refine fun1_of_vc tb_ok mix (fn := Try.f56) Try.func56 rfl (by kernel_rfl) (by kernel_rfl) (by simp [Try.f56]) (by exact DCutting.enc_nb _) ?_
  (conv => whnf)
  exact (by repeat' (first | exact trivial | exact close_int rfl | exact close_str rfl | exact close_bool rfl | exact close_int (by omega) | exact close_row rfl rfl (by first | rfl | simp) (by first | rfl | simp) | exact close_nil (by first | rfl | simp) | exact rfl | apply And.intro | apply closeTs_cons rfl))
theorem eqCutting_c (x : DCutting) (hx : x.ok) : Fun1 Try.prog 140 [.agg x.enc, .agg x.enc] (.one (.lit (.bool true))) := by
  unfold DCutting.ok at hx
  obtain ⟨hx0, hx1, hx2⟩ := hx
  refine fun1_of_vc tb_ok mix (fn := Try.f140) Try.func140 rfl (by kernel_rfl) (by kernel_rfl) (by simp [Try.f140]) (by rfl) ?_
  (conv => whnf)
  (first | (split <;> rename_i h <;> first | (exfalso; first | (simp at h; done) | (simp at h; omega) | (simp_all; done) | (simp_all; omega)) | (conv => whnf)) | skip)
  (first | (split <;> rename_i h <;> first | (exfalso; first | (simp at h; done) | (simp at h; omega) | (simp_all; done) | (simp_all; omega)) | (conv => whnf)) | skip)
  (first | (split <;> rename_i h <;> first | (exfalso; first | (simp at h; done) | (simp at h; omega) | (simp_all; done) | (simp_all; omega)) | (conv => whnf)) | skip)
  exact (by repeat' (first | exact trivial | exact close_int rfl | exact close_str rfl | exact close_bool rfl | exact close_int (by omega) | exact close_row rfl rfl (by first | rfl | simp) (by first | rfl | simp) | exact close_nil (by first | rfl | simp) | exact rfl | apply And.intro | apply closeTs_cons rfl))
theorem szClient_c (x : DClient) (left : Int) (hx : x.it) (h0 : 0 ≤ left) (h1 : left ≤ 1048576) : Fun1 Try.prog 195 [.agg x.enc, .one (.lit (.int .i64 left))] (.one (.lit (.int .i64 (szF x.wt left)))) := by
  unfold DClient.it at hx
  obtain ⟨hx0, hx1, hx2, hx3, hx4⟩ := hx
  have hw : x.wt = x.name.size + wL DStep.wt x.steps := rfl
  refine fun1_of_vc tb_ok mix (fn := Try.f195) Try.func195 rfl (by kernel_rfl) (by kernel_rfl) (by simp [Try.f195]) (by rfl) ?_
  (conv => whnf)
  refine ⟨left - (x.name.size : Nat), wrap64_id (by omega) (by omega), ?_⟩; (conv => whnf)
  (split <;> rename_i h <;> (try simp only [decide_eq_true_eq, decide_eq_false_iff_not, Bool.not_eq_true', Bool.not_eq_false', Bool.not_eq_true, Bool.not_eq_false, List.length_map] at h) <;> conv => whnf)
  · refine ⟨close_int ?_, trivial⟩; have := szF_or x.wt left; omega
  have hs2 := szF_or (wL DStep.wt x.steps) (left - (x.name.size : Nat))
  refine ⟨_, _, szStepS_c x.steps (left - (x.name.size : Nat)) hx2.1 hx2.2 (by omega) (by omega), (by repeat' (first | exact lends_nil | exact lend_dead | apply lends_cons | apply lend_agg | apply lend_one | exact all2_nil | apply all2_cons | exact la_lit rfl | exact la_int (by first | rfl | omega) | exact la_row rfl rfl | exact la_loc rfl rfl rfl (by first | rfl | simp [mkL_length]) (by first | rfl | simp) | exact la_nil rfl | apply la_fn rfl | exact lend_same rfl rfl | exact lend_bor rfl rfl)), ?_⟩; (conv => whnf)
  (split <;> rename_i h <;> (try simp only [decide_eq_true_eq, decide_eq_false_iff_not, Bool.not_eq_true', Bool.not_eq_false', Bool.not_eq_true, Bool.not_eq_false, List.length_map] at h) <;> conv => whnf)
  · refine ⟨close_int ?_, trivial⟩; have := szF_or x.wt left; omega
  refine ⟨close_int ?_, trivial⟩; have := szF_or x.wt left; omega
theorem toClient_c (x : DClient) (h : x.wt ≤ 1048576) : Fun1 Try.prog 198 [.agg x.enc] (.agg x.enc) := by
  have hw : x.wt = x.name.size + wL DStep.wt x.steps := rfl
  refine fun1_of_vc tb_ok mix (fn := Try.f198) Try.func198 rfl (by kernel_rfl) (by kernel_rfl) (by simp [Try.f198]) (by exact DClient.enc_nb _) ?_
  (conv => whnf)
  refine ⟨_, _, toStepS_c x.steps (by omega), (by repeat' (first | exact lends_nil | exact lend_dead | apply lends_cons | apply lend_agg | apply lend_one | exact all2_nil | apply all2_cons | exact la_lit rfl | exact la_int (by first | rfl | omega) | exact la_row rfl rfl | exact la_loc rfl rfl rfl (by first | rfl | simp [mkL_length]) (by first | rfl | simp) | exact la_nil rfl | apply la_fn rfl | exact lend_same rfl rfl | exact lend_bor rfl rfl)), ?_⟩; (conv => whnf)
  exact (by repeat' (first | exact trivial | exact close_int rfl | exact close_str rfl | exact close_bool rfl | exact close_int (by omega) | exact close_row rfl rfl (by first | rfl | simp) (by first | rfl | simp) | exact close_nil (by first | rfl | simp) | exact rfl | apply And.intro | apply closeTs_cons rfl))
theorem eqClient_c (x : DClient) (hx : x.ok) : Fun1 Try.prog 203 [.agg x.enc, .agg x.enc] (.one (.lit (.bool true))) := by
  unfold DClient.ok at hx
  obtain ⟨hx0, hx1, hx2, hx3, hx4⟩ := hx
  refine fun1_of_vc tb_ok mix (fn := Try.f203) Try.func203 rfl (by kernel_rfl) (by kernel_rfl) (by simp [Try.f203]) (by rfl) ?_
  (conv => whnf)
  (first | (split <;> rename_i h <;> first | (exfalso; first | (simp at h; done) | (simp at h; omega) | (simp_all; done) | (simp_all; omega)) | (conv => whnf)) | skip)
  (first | (split <;> rename_i h <;> first | (exfalso; first | (simp at h; done) | (simp at h; omega) | (simp_all; done) | (simp_all; omega)) | (conv => whnf)) | skip)
  refine ⟨_, _, eqStepS_c x.steps hx2.1 hx2.2, (by repeat' (first | exact lends_nil | exact lend_dead | apply lends_cons | apply lend_agg | apply lend_one | exact all2_nil | apply all2_cons | exact la_lit rfl | exact la_int (by first | rfl | omega) | exact la_row rfl rfl | exact la_loc rfl rfl rfl (by first | rfl | simp [mkL_length]) (by first | rfl | simp) | exact la_nil rfl | apply la_fn rfl | exact lend_same rfl rfl | exact lend_bor rfl rfl)), ?_⟩; (conv => whnf)
  (first | (split <;> rename_i h <;> first | (exfalso; first | (simp at h; done) | (simp at h; omega) | (simp_all; done) | (simp_all; omega)) | (conv => whnf)) | skip)
  (first | (split <;> rename_i h <;> first | (exfalso; first | (simp at h; done) | (simp at h; omega) | (simp_all; done) | (simp_all; omega)) | (conv => whnf)) | skip)
  exact (by repeat' (first | exact trivial | exact close_int rfl | exact close_str rfl | exact close_bool rfl | exact close_int (by omega) | exact close_row rfl rfl (by first | rfl | simp) (by first | rfl | simp) | exact close_nil (by first | rfl | simp) | exact rfl | apply And.intro | apply closeTs_cons rfl))
theorem szClientS_c (x : List DClient) (left : Int) (hl : x.length ≤ 9223372036854775807) (hx : ∀ y ∈ x, y.it) (h0 : 0 ≤ left) (h1 : left ≤ 1048576) : Fun1 Try.prog 129 [.one (.row true 5 (x.map DClient.enc)), .one (.lit (.int .i64 left))] (.one (.lit (.int .i64 (szF (wL DClient.wt x) left)))) := by
  have hw : wL DClient.wt x = x.length + (x.map DClient.wt).sum := rfl
  refine fun1_of_vc tb_ok mix (fn := Try.f129) Try.func129 rfl (by kernel_rfl) (by kernel_rfl) (by simp [Try.f129]) (by rfl) ?_
  (conv => whnf)
  refine ⟨left - (x.length : Nat), by rw [List.length_map]; exact wrap64_id (by omega) (by omega), ?_⟩; (conv => whnf)
  (split <;> rename_i h <;> (try simp only [decide_eq_true_eq, decide_eq_false_iff_not, Bool.not_eq_true', Bool.not_eq_false', Bool.not_eq_true, Bool.not_eq_false, List.length_map] at h) <;> conv => whnf)
  · refine ⟨close_int ?_, trivial⟩; have := szF_or (wL DClient.wt x) left; omega
  refine ⟨LG (fun i : Nat => i ≤ x.length ∧ ((x.length + ((x.take i).map DClient.wt).sum : Nat) : Int) ≤ left) (fun i => x.length - i) (fun i => AS.of [(0, .one (.row true 5 (x.map DClient.enc))), (1, .one (.lit (.int .i64 (left - ((x.length + ((x.take i).map DClient.wt).sum : Nat) : Int))))), (5, .one (.lit (.int .i64 (i : Nat))))] []), lg_init 0 ⟨by omega, by simp; omega⟩ (weak_of (by refine all_cons rfl (all_cons (eq_int rfl (by simp)) (all_cons rfl all_nil))) all_nil rfl rfl), ?_⟩
  rintro σ k ⟨i, ⟨hi, hc⟩, rfl, rfl⟩
  refine ⟨_, Weak.refl _, ?_⟩
  (conv => whnf)
  (split <;> rename_i h <;> (try simp only [decide_eq_true_eq, decide_eq_false_iff_not, Bool.not_eq_true', Bool.not_eq_false', Bool.not_eq_true, Bool.not_eq_false, List.length_map] at h) <;> conv => whnf)
  · have hlt : i < x.length := by simpa using h
    have hs := wsum_take_succ (f := DClient.wt) hlt
    have hle := sum_take_le DClient.wt x (i + 1)
    refine ⟨i, rfl, _, at_map hlt, ?_⟩; (conv => whnf)
    have hy := hx x[i] (List.getElem_mem hlt)
    have hq := szF_or (x[i].wt) (left - ((x.length + ((x.take i).map DClient.wt).sum : Nat) : Int))
    refine ⟨_, _, szClient_c x[i] (left - ((x.length + ((x.take i).map DClient.wt).sum : Nat) : Int)) hy (by omega) (by omega), (by repeat' (first | exact lends_nil | exact lend_dead | apply lends_cons | apply lend_agg | apply lend_one | exact all2_nil | apply all2_cons | exact la_lit rfl | exact la_int (by first | rfl | omega) | exact la_row rfl rfl | exact la_loc rfl rfl rfl (by first | rfl | simp [mkL_length]) (by first | rfl | simp) | exact la_nil rfl | apply la_fn rfl | exact lend_same rfl rfl | exact lend_bor rfl rfl)), ?_⟩; (conv => whnf)
    (split <;> rename_i h2 <;> (try simp only [decide_eq_true_eq, decide_eq_false_iff_not, Bool.not_eq_true', Bool.not_eq_false', Bool.not_eq_true, Bool.not_eq_false, List.length_map] at h2) <;> conv => whnf)
    · refine ⟨close_int ?_, trivial⟩; have := szF_or (wL DClient.wt x) left; omega
    refine ⟨((i + 1 : Nat) : Int), by rw [← wrap64_id] <;> omega, ?_⟩; (conv => whnf)
    exact lg_back (i + 1) ⟨by omega, by omega⟩ (by (try dsimp only); omega) (weak_of (by refine all_cons rfl (all_cons (eq_int rfl (by omega)) (all_cons rfl all_nil))) all_nil rfl rfl)
  · have : i = x.length := by simp at h; omega
    subst this
    rw [List.take_length] at hc
    refine ⟨close_int ?_, trivial⟩; rw [List.take_length]; have := szF_or (wL DClient.wt x) left; omega
theorem toClientS_c (x : List DClient) (h : wL DClient.wt x ≤ 1048576) : Fun1 Try.prog 132 [.one (.row true 5 (x.map DClient.enc))] (.one (.row true 5 (x.map DClient.enc))) := by
  have hw : wL DClient.wt x = x.length + (x.map DClient.wt).sum := rfl
  refine fun1_of_vc tb_ok mix (fn := Try.f132) Try.func132 rfl (by kernel_rfl) (by kernel_rfl) (by simp [Try.f132]) (by show AV.nb (4 + 1) _ = true; exact nb_map (n := 4) (fun y => DClient.enc_nbn 3 y) _) ?_
  (conv => whnf)
  refine ⟨x.length, by simp, Int.le_refl _, by simp; omega, by simp [maxLen]; omega, ?_⟩; (conv => whnf)
  refine ⟨LG (fun i : Nat => i ≤ x.length) (fun i => x.length - i) (fun i => AS.of [(0, .one (.row true 5 (x.map DClient.enc))), (3, .one (.loc 112 0 x.length)), (4, .one (.lit (.int .i64 (i : Nat))))] [(112, .row true 5 ((x.take i).map DClient.enc ++ List.replicate (x.length - i) [.lit (.int .i64 0), .lit (.string .empty), .lit (.slice none 0 0), .lit (.int .i64 0), .lit (.int .i64 0)]))]), lg_init 0 (by omega) (weak_of (by repeat (first | refine all_cons (by first | rfl | exact eq_int rfl (by first | rfl | omega | (simp; done) | (simp; omega)) | exact eq_loc rfl (by first | rfl | omega | (simp; done) | (simp; omega)) | exact eq_bool rfl (by simp_all)) ?_ | exact all_nil)) (by exact all_cons (eq_row rfl (by simp)) all_nil) rfl rfl), ?_⟩
  rintro σ k ⟨i, hi, rfl, rfl⟩
  refine ⟨_, Weak.refl _, ?_⟩
  by_cases hlt : i < x.length
  · have hd : List.replicate (x.length - i) ([.lit (.int .i64 0), .lit (.string .empty), .lit (.slice none 0 0), .lit (.int .i64 0), .lit (.int .i64 0)] : List AV) = [.lit (.int .i64 0), .lit (.string .empty), .lit (.slice none 0 0), .lit (.int .i64 0), .lit (.int .i64 0)] :: List.replicate (x.length - (i + 1)) [.lit (.int .i64 0), .lit (.string .empty), .lit (.slice none 0 0), .lit (.int .i64 0), .lit (.int .i64 0)] := by rw [show x.length - i = (x.length - (i + 1)) + 1 by omega]; rfl
    have hml : ((x.take i).map DClient.enc).length = 0 + i := by simp; omega
    have hts : (x.take (i + 1)).map DClient.enc = (x.take i).map DClient.enc ++ [DClient.enc x[i]] := by rw [List.take_succ_eq_append_getElem hlt, List.map_append]; rfl
    have hwi : DClient.wt x[i] ≤ wL DClient.wt x := by have h1 := wsum_take_succ (f := DClient.wt) hlt; have h2 := sum_take_le DClient.wt x (i + 1); omega
    have hq : (x.take i).map DClient.enc ++ List.replicate (x.length - i) ([.lit (.int .i64 0), .lit (.string .empty), .lit (.slice none 0 0), .lit (.int .i64 0), .lit (.int .i64 0)] : List AV) = (x.take i).map DClient.enc ++ [.lit (.int .i64 0), .lit (.string .empty), .lit (.slice none 0 0), .lit (.int .i64 0), .lit (.int .i64 0)] :: List.replicate (x.length - (i + 1)) [.lit (.int .i64 0), .lit (.string .empty), .lit (.slice none 0 0), .lit (.int .i64 0), .lit (.int .i64 0)] := by rw [hd]
    (conv => whnf)
    split <;> rename_i hb
    case h_2 => simp at hb; omega
    clear hb; (conv => whnf)
    refine ⟨i, rfl, _, at_map hlt, ?_⟩; (conv => whnf)
    refine ⟨_, _, toClient_c x[i] (by omega), (by repeat' (first | exact lends_nil | exact lend_dead | apply lends_cons | apply lend_agg | apply lend_one | exact all2_nil | apply all2_cons | exact la_lit rfl | exact la_int (by first | rfl | omega) | exact la_row rfl rfl | exact la_loc rfl rfl rfl (by first | rfl | simp [mkL_length]) (by first | rfl | simp) | exact la_nil rfl | apply la_fn rfl | exact lend_same rfl rfl | exact lend_bor rfl rfl)), ?_⟩; (conv => whnf)
    refine ⟨i, rfl, hlt, ?_⟩; (conv => whnf)
    refine ⟨_, at_eq hq hml, ?_⟩; (conv => whnf)
    refine ⟨_, set_eq hq hml, ?_⟩; (conv => whnf)
    refine ⟨((i + 1 : Nat) : Int), by rw [← wrap64_id] <;> omega, ?_⟩; (conv => whnf)
    exact lg_back (i + 1) (by omega) (by (try dsimp only); omega) (weak_absorb (r := 112) (s := 322) ((x.take i).map DClient.enc) (List.replicate (x.length - (i + 1)) [.lit (.int .i64 0), .lit (.string .empty), .lit (.slice none 0 0), .lit (.int .i64 0), .lit (.int .i64 0)]) [.lit (.int .i64 x[i].cmd), .lit (.string x[i].name)] [.lit (.int .i64 x[i].at_), .lit (.int .i64 x[i].until_)] (es2 := x[i].steps.map DStep.enc) (by decide) rfl rfl (cellRow_map (fun y => rfl) _) (by simp [cellRow, AV.isCell]) rfl rfl (weak_of (by repeat (first | refine all_cons (by first | rfl | exact eq_int rfl (by first | rfl | omega | (simp; done) | (simp; omega)) | exact eq_loc rfl (by first | rfl | omega | (simp; done) | (simp; omega)) | exact eq_bool rfl (by simp_all)) ?_ | exact all_nil)) (by exact all_cons (eq_row rfl (by rw [hts]; exact (List.append_assoc _ [_] _).symm)) all_nil) rfl rfl))
  · have : i = x.length := by omega
    subst this
    (conv => whnf)
    split <;> rename_i hb
    case h_1 => simp at hb
    clear hb; (conv => whnf)
    exact ⟨close_row rfl rfl (by simp) (by simp), trivial⟩
theorem eqClientS_c (x : List DClient) (hl : x.length ≤ 4294967296) (hx : ∀ y ∈ x, y.ok) : Fun1 Try.prog 141 [.one (.row true 5 (x.map DClient.enc)), .one (.row true 5 (x.map DClient.enc))] (.one (.lit (.bool true))) := by
  refine fun1_of_vc tb_ok mix (fn := Try.f141) Try.func141 rfl (by kernel_rfl) (by kernel_rfl) (by simp [Try.f141]) (by rfl) ?_
  (conv => whnf)
  (first | (split <;> rename_i h <;> first | (exfalso; first | (simp at h; done) | (simp at h; omega) | (simp_all; done) | (simp_all; omega)) | (conv => whnf)) | skip)
  refine ⟨LG (fun i : Nat => i ≤ x.length) (fun i => x.length - i) (fun i => AS.of [(0, .one (.row true 5 (x.map DClient.enc))), (1, .one (.row true 5 (x.map DClient.enc))), (5, .one (.lit (.int .i64 (i : Nat))))] []), lg_init 0 (by omega) (weak_of (by repeat (first | refine all_cons (by first | rfl | exact eq_int rfl (by first | rfl | omega | (simp; done) | (simp; omega)) | exact eq_loc rfl (by first | rfl | omega | (simp; done) | (simp; omega)) | exact eq_bool rfl (by simp_all)) ?_ | exact all_nil)) (by repeat (first | refine all_cons (by first | rfl | exact eq_int rfl (by first | rfl | omega | (simp; done) | (simp; omega)) | exact eq_loc rfl (by first | rfl | omega | (simp; done) | (simp; omega)) | exact eq_bool rfl (by simp_all)) ?_ | exact all_nil)) rfl rfl), ?_⟩
  rintro σ k ⟨i, hi, rfl, rfl⟩
  refine ⟨_, Weak.refl _, ?_⟩
  (conv => whnf)
  (split <;> rename_i h <;> (try simp only [decide_eq_true_eq, decide_eq_false_iff_not, Bool.not_eq_true', Bool.not_eq_false', Bool.not_eq_true, Bool.not_eq_false, List.length_map] at h) <;> conv => whnf)
  · have hlt : i < x.length := by simpa using h
    refine ⟨i, rfl, _, at_map hlt, ?_⟩; (conv => whnf)
    refine ⟨i, rfl, _, at_map hlt, ?_⟩; (conv => whnf)
    have hy := hx x[i] (List.getElem_mem hlt)
    refine ⟨_, _, eqClient_c x[i] hy, (by repeat' (first | exact lends_nil | exact lend_dead | apply lends_cons | apply lend_agg | apply lend_one | exact all2_nil | apply all2_cons | exact la_lit rfl | exact la_int (by first | rfl | omega) | exact la_row rfl rfl | exact la_loc rfl rfl rfl (by first | rfl | simp [mkL_length]) (by first | rfl | simp) | exact la_nil rfl | apply la_fn rfl | exact lend_same rfl rfl | exact lend_bor rfl rfl)), ?_⟩; (conv => whnf)
    refine ⟨((i + 1 : Nat) : Int), by rw [← wrap64_id] <;> omega, ?_⟩; (conv => whnf)
    exact lg_back (i + 1) (by omega) (by (try dsimp only); omega) (weak_of (by repeat (first | refine all_cons (by first | rfl | exact eq_int rfl (by first | rfl | omega | (simp; done) | (simp; omega)) | exact eq_loc rfl (by first | rfl | omega | (simp; done) | (simp; omega)) | exact eq_bool rfl (by simp_all)) ?_ | exact all_nil)) (by repeat (first | refine all_cons (by first | rfl | exact eq_int rfl (by first | rfl | omega | (simp; done) | (simp; omega)) | exact eq_loc rfl (by first | rfl | omega | (simp; done) | (simp; omega)) | exact eq_bool rfl (by simp_all)) ?_ | exact all_nil)) rfl rfl)
  · exact (by repeat' (first | exact trivial | exact close_int rfl | exact close_str rfl | exact close_bool rfl | exact close_int (by omega) | exact close_row rfl rfl (by first | rfl | simp) (by first | rfl | simp) | exact close_nil (by first | rfl | simp) | exact rfl | apply And.intro | apply closeTs_cons rfl))
theorem szWorld_c (x : DWorld) (left : Int) (hx : x.it) (h0 : 0 ≤ left) (h1 : left ≤ 1048576) : Fun1 Try.prog 41 [.agg x.enc, .one (.lit (.int .i64 left))] (.one (.lit (.int .i64 (szF x.wt left)))) := by
  unfold DWorld.it at hx
  obtain ⟨hx0, hx1, hx2, hx3⟩ := hx
  have hw : x.wt = x.array.wt + wL DClient.wt x.clients := rfl
  refine fun1_of_vc tb_ok mix (fn := Try.f41) Try.func41 rfl (by kernel_rfl) (by kernel_rfl) (by simp [Try.f41]) (by rfl) ?_
  (conv => whnf)
  have hs0 := szF_or (x.array.wt) (left)
  refine ⟨_, _, szArray_c x.array (left) hx0 (by omega) (by omega), (by repeat' (first | exact lends_nil | exact lend_dead | apply lends_cons | apply lend_agg | apply lend_one | exact all2_nil | apply all2_cons | exact la_lit rfl | exact la_int (by first | rfl | omega) | exact la_row rfl rfl | exact la_loc rfl rfl rfl (by first | rfl | simp [mkL_length]) (by first | rfl | simp) | exact la_nil rfl | apply la_fn rfl | exact lend_same rfl rfl | exact lend_bor rfl rfl)), ?_⟩; (conv => whnf)
  (split <;> rename_i h <;> (try simp only [decide_eq_true_eq, decide_eq_false_iff_not, Bool.not_eq_true', Bool.not_eq_false', Bool.not_eq_true, Bool.not_eq_false, List.length_map] at h) <;> conv => whnf)
  · refine ⟨close_int ?_, trivial⟩; have := szF_or x.wt left; omega
  have hs3 := szF_or (wL DClient.wt x.clients) (szF (x.array.wt) (left))
  refine ⟨_, _, szClientS_c x.clients (szF (x.array.wt) (left)) hx3.1 hx3.2 (by omega) (by omega), (by repeat' (first | exact lends_nil | exact lend_dead | apply lends_cons | apply lend_agg | apply lend_one | exact all2_nil | apply all2_cons | exact la_lit rfl | exact la_int (by first | rfl | omega) | exact la_row rfl rfl | exact la_loc rfl rfl rfl (by first | rfl | simp [mkL_length]) (by first | rfl | simp) | exact la_nil rfl | apply la_fn rfl | exact lend_same rfl rfl | exact lend_bor rfl rfl)), ?_⟩; (conv => whnf)
  (split <;> rename_i h <;> (try simp only [decide_eq_true_eq, decide_eq_false_iff_not, Bool.not_eq_true', Bool.not_eq_false', Bool.not_eq_true, Bool.not_eq_false, List.length_map] at h) <;> conv => whnf)
  · refine ⟨close_int ?_, trivial⟩; have := szF_or x.wt left; omega
  refine ⟨close_int ?_, trivial⟩; have := szF_or x.wt left; omega
theorem toWorld_c (x : DWorld) (h : x.wt ≤ 1048576) : Fun1 Try.prog 43 [.agg x.enc] (.agg x.enc) := by
  have hw : x.wt = x.array.wt + wL DClient.wt x.clients := rfl
  refine fun1_of_vc tb_ok mix (fn := Try.f43) Try.func43 rfl (by kernel_rfl) (by kernel_rfl) (by simp [Try.f43]) (by exact DWorld.enc_nb _) ?_
  (conv => whnf)
  refine ⟨_, _, toArray_c x.array (by omega), (by repeat' (first | exact lends_nil | exact lend_dead | apply lends_cons | apply lend_agg | apply lend_one | exact all2_nil | apply all2_cons | exact la_lit rfl | exact la_int (by first | rfl | omega) | exact la_row rfl rfl | exact la_loc rfl rfl rfl (by first | rfl | simp [mkL_length]) (by first | rfl | simp) | exact la_nil rfl | apply la_fn rfl | exact lend_same rfl rfl | exact lend_bor rfl rfl)), ?_⟩; (conv => whnf)
  refine ⟨_, _, toCutting_c x.cutting, (by repeat' (first | exact lends_nil | exact lend_dead | apply lends_cons | apply lend_agg | apply lend_one | exact all2_nil | apply all2_cons | exact la_lit rfl | exact la_int (by first | rfl | omega) | exact la_row rfl rfl | exact la_loc rfl rfl rfl (by first | rfl | simp [mkL_length]) (by first | rfl | simp) | exact la_nil rfl | apply la_fn rfl | exact lend_same rfl rfl | exact lend_bor rfl rfl)), ?_⟩; (conv => whnf)
  refine ⟨_, _, toClientS_c x.clients (by omega), (by repeat' (first | exact lends_nil | exact lend_dead | apply lends_cons | apply lend_agg | apply lend_one | exact all2_nil | apply all2_cons | exact la_lit rfl | exact la_int (by first | rfl | omega) | exact la_row rfl rfl | exact la_loc rfl rfl rfl (by first | rfl | simp [mkL_length]) (by first | rfl | simp) | exact la_nil rfl | apply la_fn rfl | exact lend_same rfl rfl | exact lend_bor rfl rfl)), ?_⟩; (conv => whnf)
  exact (by repeat' (first | exact trivial | exact close_int rfl | exact close_str rfl | exact close_bool rfl | exact close_int (by omega) | exact close_row rfl rfl (by first | rfl | simp) (by first | rfl | simp) | exact close_nil (by first | rfl | simp) | exact rfl | apply And.intro | apply closeTs_cons rfl))
theorem eqWorld_c (x : DWorld) (hx : x.ok) : Fun1 Try.prog 45 [.agg x.enc, .agg x.enc] (.one (.lit (.bool true))) := by
  unfold DWorld.ok at hx
  obtain ⟨hx0, hx1, hx2, hx3⟩ := hx
  refine fun1_of_vc tb_ok mix (fn := Try.f45) Try.func45 rfl (by kernel_rfl) (by kernel_rfl) (by simp [Try.f45]) (by rfl) ?_
  (conv => whnf)
  refine ⟨_, _, eqArray_c x.array hx0, (by repeat' (first | exact lends_nil | exact lend_dead | apply lends_cons | apply lend_agg | apply lend_one | exact all2_nil | apply all2_cons | exact la_lit rfl | exact la_int (by first | rfl | omega) | exact la_row rfl rfl | exact la_loc rfl rfl rfl (by first | rfl | simp [mkL_length]) (by first | rfl | simp) | exact la_nil rfl | apply la_fn rfl | exact lend_same rfl rfl | exact lend_bor rfl rfl)), ?_⟩; (conv => whnf)
  refine ⟨_, _, eqCutting_c x.cutting hx1, (by repeat' (first | exact lends_nil | exact lend_dead | apply lends_cons | apply lend_agg | apply lend_one | exact all2_nil | apply all2_cons | exact la_lit rfl | exact la_int (by first | rfl | omega) | exact la_row rfl rfl | exact la_loc rfl rfl rfl (by first | rfl | simp [mkL_length]) (by first | rfl | simp) | exact la_nil rfl | apply la_fn rfl | exact lend_same rfl rfl | exact lend_bor rfl rfl)), ?_⟩; (conv => whnf)
  (first | (split <;> rename_i h <;> first | (exfalso; first | (simp at h; done) | (simp at h; omega) | (simp_all; done) | (simp_all; omega)) | (conv => whnf)) | skip)
  refine ⟨_, _, eqClientS_c x.clients hx3.1 hx3.2, (by repeat' (first | exact lends_nil | exact lend_dead | apply lends_cons | apply lend_agg | apply lend_one | exact all2_nil | apply all2_cons | exact la_lit rfl | exact la_int (by first | rfl | omega) | exact la_row rfl rfl | exact la_loc rfl rfl rfl (by first | rfl | simp [mkL_length]) (by first | rfl | simp) | exact la_nil rfl | apply la_fn rfl | exact lend_same rfl rfl | exact lend_bor rfl rfl)), ?_⟩; (conv => whnf)
  exact (by repeat' (first | exact trivial | exact close_int rfl | exact close_str rfl | exact close_bool rfl | exact close_int (by omega) | exact close_row rfl rfl (by first | rfl | simp) (by first | rfl | simp) | exact close_nil (by first | rfl | simp) | exact rfl | apply And.intro | apply closeTs_cons rfl))
theorem eqDriveOut_c (x : DDriveOut) (hx : x.ok) : Fun1 Try.prog 50 [.agg x.enc, .agg x.enc] (.one (.lit (.bool true))) := by
  unfold DDriveOut.ok at hx
  obtain ⟨hx0, hx1⟩ := hx
  refine fun1_of_vc tb_ok mix (fn := Try.f50) Try.func50 rfl (by kernel_rfl) (by kernel_rfl) (by simp [Try.f50]) (by rfl) ?_
  (conv => whnf)
  refine ⟨_, _, eqDrive_c x.drive hx0, (by repeat' (first | exact lends_nil | exact lend_dead | apply lends_cons | apply lend_agg | apply lend_one | exact all2_nil | apply all2_cons | exact la_lit rfl | exact la_int (by first | rfl | omega) | exact la_row rfl rfl | exact la_loc rfl rfl rfl (by first | rfl | simp [mkL_length]) (by first | rfl | simp) | exact la_nil rfl | apply la_fn rfl | exact lend_same rfl rfl | exact lend_bor rfl rfl)), ?_⟩; (conv => whnf)
  (first | (split <;> rename_i h <;> first | (exfalso; first | (simp at h; done) | (simp at h; omega) | (simp_all; done) | (simp_all; omega)) | (conv => whnf)) | skip)
  exact (by repeat' (first | exact trivial | exact close_int rfl | exact close_str rfl | exact close_bool rfl | exact close_int (by omega) | exact close_row rfl rfl (by first | rfl | simp) (by first | rfl | simp) | exact close_nil (by first | rfl | simp) | exact rfl | apply And.intro | apply closeTs_cons rfl))
theorem szSnap_c (x : DSnap) (left : Int) (hx : x.it) (h0 : 0 ≤ left) (h1 : left ≤ 1048576) : Fun1 Try.prog 153 [.agg x.enc, .one (.lit (.int .i64 left))] (.one (.lit (.int .i64 (szF x.wt left)))) := by
  unfold DSnap.it at hx
  obtain ⟨hx0, hx1, hx2⟩ := hx
  have hw : x.wt = x.name.size + x.root.size := rfl
  refine fun1_of_vc tb_ok mix (fn := Try.f153) Try.func153 rfl (by kernel_rfl) (by kernel_rfl) (by simp [Try.f153]) (by rfl) ?_
  (conv => whnf)
  refine ⟨left - (x.name.size : Nat), wrap64_id (by omega) (by omega), ?_⟩; (conv => whnf)
  (split <;> rename_i h <;> (try simp only [decide_eq_true_eq, decide_eq_false_iff_not, Bool.not_eq_true', Bool.not_eq_false', Bool.not_eq_true, Bool.not_eq_false, List.length_map] at h) <;> conv => whnf)
  · refine ⟨close_int ?_, trivial⟩; have := szF_or x.wt left; omega
  refine ⟨left - (x.name.size : Nat) - (x.root.size : Nat), wrap64_id (by omega) (by omega), ?_⟩; (conv => whnf)
  (split <;> rename_i h <;> (try simp only [decide_eq_true_eq, decide_eq_false_iff_not, Bool.not_eq_true', Bool.not_eq_false', Bool.not_eq_true, Bool.not_eq_false, List.length_map] at h) <;> conv => whnf)
  · refine ⟨close_int ?_, trivial⟩; have := szF_or x.wt left; omega
  refine ⟨close_int ?_, trivial⟩; have := szF_or x.wt left; omega
theorem toSnap_c (x : DSnap) (h : x.wt ≤ 1048576) : Fun1 Try.prog 156 [.agg x.enc] (.agg x.enc) := by
  have hw : x.wt = x.name.size + x.root.size := rfl
  refine fun1_of_vc tb_ok mix (fn := Try.f156) Try.func156 rfl (by kernel_rfl) (by kernel_rfl) (by simp [Try.f156]) (by exact DSnap.enc_nb _) ?_
  (conv => whnf)
  exact (by repeat' (first | exact trivial | exact close_int rfl | exact close_str rfl | exact close_bool rfl | exact close_int (by omega) | exact close_row rfl rfl (by first | rfl | simp) (by first | rfl | simp) | exact close_nil (by first | rfl | simp) | exact rfl | apply And.intro | apply closeTs_cons rfl))
theorem eqSnap_c (x : DSnap) (hx : x.ok) : Fun1 Try.prog 158 [.agg x.enc, .agg x.enc] (.one (.lit (.bool true))) := by
  unfold DSnap.ok at hx
  obtain ⟨hx0, hx1, hx2⟩ := hx
  refine fun1_of_vc tb_ok mix (fn := Try.f158) Try.func158 rfl (by kernel_rfl) (by kernel_rfl) (by simp [Try.f158]) (by rfl) ?_
  (conv => whnf)
  (first | (split <;> rename_i h <;> first | (exfalso; first | (simp at h; done) | (simp at h; omega) | (simp_all; done) | (simp_all; omega)) | (conv => whnf)) | skip)
  (first | (split <;> rename_i h <;> first | (exfalso; first | (simp at h; done) | (simp at h; omega) | (simp_all; done) | (simp_all; omega)) | (conv => whnf)) | skip)
  (first | (split <;> rename_i h <;> first | (exfalso; first | (simp at h; done) | (simp at h; omega) | (simp_all; done) | (simp_all; omega)) | (conv => whnf)) | skip)
  exact (by repeat' (first | exact trivial | exact close_int rfl | exact close_str rfl | exact close_bool rfl | exact close_int (by omega) | exact close_row rfl rfl (by first | rfl | simp) (by first | rfl | simp) | exact close_nil (by first | rfl | simp) | exact rfl | apply And.intro | apply closeTs_cons rfl))
theorem szSnapS_c (x : List DSnap) (left : Int) (hl : x.length ≤ 9223372036854775807) (hx : ∀ y ∈ x, y.it) (h0 : 0 ≤ left) (h1 : left ≤ 1048576) : Fun1 Try.prog 60 [.one (.row true 3 (x.map DSnap.enc)), .one (.lit (.int .i64 left))] (.one (.lit (.int .i64 (szF (wL DSnap.wt x) left)))) := by
  have hw : wL DSnap.wt x = x.length + (x.map DSnap.wt).sum := rfl
  refine fun1_of_vc tb_ok mix (fn := Try.f60) Try.func60 rfl (by kernel_rfl) (by kernel_rfl) (by simp [Try.f60]) (by rfl) ?_
  (conv => whnf)
  refine ⟨left - (x.length : Nat), by rw [List.length_map]; exact wrap64_id (by omega) (by omega), ?_⟩; (conv => whnf)
  (split <;> rename_i h <;> (try simp only [decide_eq_true_eq, decide_eq_false_iff_not, Bool.not_eq_true', Bool.not_eq_false', Bool.not_eq_true, Bool.not_eq_false, List.length_map] at h) <;> conv => whnf)
  · refine ⟨close_int ?_, trivial⟩; have := szF_or (wL DSnap.wt x) left; omega
  refine ⟨LG (fun i : Nat => i ≤ x.length ∧ ((x.length + ((x.take i).map DSnap.wt).sum : Nat) : Int) ≤ left) (fun i => x.length - i) (fun i => AS.of [(0, .one (.row true 3 (x.map DSnap.enc))), (1, .one (.lit (.int .i64 (left - ((x.length + ((x.take i).map DSnap.wt).sum : Nat) : Int))))), (5, .one (.lit (.int .i64 (i : Nat))))] []), lg_init 0 ⟨by omega, by simp; omega⟩ (weak_of (by refine all_cons rfl (all_cons (eq_int rfl (by simp)) (all_cons rfl all_nil))) all_nil rfl rfl), ?_⟩
  rintro σ k ⟨i, ⟨hi, hc⟩, rfl, rfl⟩
  refine ⟨_, Weak.refl _, ?_⟩
  (conv => whnf)
  (split <;> rename_i h <;> (try simp only [decide_eq_true_eq, decide_eq_false_iff_not, Bool.not_eq_true', Bool.not_eq_false', Bool.not_eq_true, Bool.not_eq_false, List.length_map] at h) <;> conv => whnf)
  · have hlt : i < x.length := by simpa using h
    have hs := wsum_take_succ (f := DSnap.wt) hlt
    have hle := sum_take_le DSnap.wt x (i + 1)
    refine ⟨i, rfl, _, at_map hlt, ?_⟩; (conv => whnf)
    have hy := hx x[i] (List.getElem_mem hlt)
    have hq := szF_or (x[i].wt) (left - ((x.length + ((x.take i).map DSnap.wt).sum : Nat) : Int))
    refine ⟨_, _, szSnap_c x[i] (left - ((x.length + ((x.take i).map DSnap.wt).sum : Nat) : Int)) hy (by omega) (by omega), (by repeat' (first | exact lends_nil | exact lend_dead | apply lends_cons | apply lend_agg | apply lend_one | exact all2_nil | apply all2_cons | exact la_lit rfl | exact la_int (by first | rfl | omega) | exact la_row rfl rfl | exact la_loc rfl rfl rfl (by first | rfl | simp [mkL_length]) (by first | rfl | simp) | exact la_nil rfl | apply la_fn rfl | exact lend_same rfl rfl | exact lend_bor rfl rfl)), ?_⟩; (conv => whnf)
    (split <;> rename_i h2 <;> (try simp only [decide_eq_true_eq, decide_eq_false_iff_not, Bool.not_eq_true', Bool.not_eq_false', Bool.not_eq_true, Bool.not_eq_false, List.length_map] at h2) <;> conv => whnf)
    · refine ⟨close_int ?_, trivial⟩; have := szF_or (wL DSnap.wt x) left; omega
    refine ⟨((i + 1 : Nat) : Int), by rw [← wrap64_id] <;> omega, ?_⟩; (conv => whnf)
    exact lg_back (i + 1) ⟨by omega, by omega⟩ (by (try dsimp only); omega) (weak_of (by refine all_cons rfl (all_cons (eq_int rfl (by omega)) (all_cons rfl all_nil))) all_nil rfl rfl)
  · have : i = x.length := by simp at h; omega
    subst this
    rw [List.take_length] at hc
    refine ⟨close_int ?_, trivial⟩; rw [List.take_length]; have := szF_or (wL DSnap.wt x) left; omega
theorem toSnapS_c (x : List DSnap) (h : wL DSnap.wt x ≤ 1048576) : Fun1 Try.prog 63 [.one (.row true 3 (x.map DSnap.enc))] (.one (.row true 3 (x.map DSnap.enc))) := by
  have hw : wL DSnap.wt x = x.length + (x.map DSnap.wt).sum := rfl
  refine fun1_of_vc tb_ok mix (fn := Try.f63) Try.func63 rfl (by kernel_rfl) (by kernel_rfl) (by simp [Try.f63]) (by show AV.nb (4 + 1) _ = true; exact nb_map (n := 4) (fun y => DSnap.enc_nbn 4 y) _) ?_
  (conv => whnf)
  refine ⟨x.length, by simp, Int.le_refl _, by simp; omega, by simp [maxLen]; omega, ?_⟩; (conv => whnf)
  refine ⟨LG (fun i : Nat => i ≤ x.length) (fun i => x.length - i) (fun i => AS.of [(0, .one (.row true 3 (x.map DSnap.enc))), (3, .one (.loc 112 0 x.length)), (4, .one (.lit (.int .i64 (i : Nat))))] [(112, .row true 3 ((x.take i).map DSnap.enc ++ List.replicate (x.length - i) [.lit (.string .empty), .lit (.int .i64 0), .lit (.string .empty)]))]), lg_init 0 (by omega) (weak_of (by repeat (first | refine all_cons (by first | rfl | exact eq_int rfl (by first | rfl | omega | (simp; done) | (simp; omega)) | exact eq_loc rfl (by first | rfl | omega | (simp; done) | (simp; omega)) | exact eq_bool rfl (by simp_all)) ?_ | exact all_nil)) (by exact all_cons (eq_row rfl (by simp)) all_nil) rfl rfl), ?_⟩
  rintro σ k ⟨i, hi, rfl, rfl⟩
  refine ⟨_, Weak.refl _, ?_⟩
  by_cases hlt : i < x.length
  · have hd : List.replicate (x.length - i) ([.lit (.string .empty), .lit (.int .i64 0), .lit (.string .empty)] : List AV) = [.lit (.string .empty), .lit (.int .i64 0), .lit (.string .empty)] :: List.replicate (x.length - (i + 1)) [.lit (.string .empty), .lit (.int .i64 0), .lit (.string .empty)] := by rw [show x.length - i = (x.length - (i + 1)) + 1 by omega]; rfl
    have hml : ((x.take i).map DSnap.enc).length = 0 + i := by simp; omega
    have hts : (x.take (i + 1)).map DSnap.enc = (x.take i).map DSnap.enc ++ [DSnap.enc x[i]] := by rw [List.take_succ_eq_append_getElem hlt, List.map_append]; rfl
    have hwi : DSnap.wt x[i] ≤ wL DSnap.wt x := by have h1 := wsum_take_succ (f := DSnap.wt) hlt; have h2 := sum_take_le DSnap.wt x (i + 1); omega
    have hq : (x.take i).map DSnap.enc ++ List.replicate (x.length - i) ([.lit (.string .empty), .lit (.int .i64 0), .lit (.string .empty)] : List AV) = (x.take i).map DSnap.enc ++ [.lit (.string .empty), .lit (.int .i64 0), .lit (.string .empty)] :: List.replicate (x.length - (i + 1)) [.lit (.string .empty), .lit (.int .i64 0), .lit (.string .empty)] := by rw [hd]
    (conv => whnf)
    split <;> rename_i hb
    case h_2 => simp at hb; omega
    clear hb; (conv => whnf)
    refine ⟨i, rfl, _, at_map hlt, ?_⟩; (conv => whnf)
    refine ⟨_, _, toSnap_c x[i] (by omega), (by repeat' (first | exact lends_nil | exact lend_dead | apply lends_cons | apply lend_agg | apply lend_one | exact all2_nil | apply all2_cons | exact la_lit rfl | exact la_int (by first | rfl | omega) | exact la_row rfl rfl | exact la_loc rfl rfl rfl (by first | rfl | simp [mkL_length]) (by first | rfl | simp) | exact la_nil rfl | apply la_fn rfl | exact lend_same rfl rfl | exact lend_bor rfl rfl)), ?_⟩; (conv => whnf)
    refine ⟨i, rfl, hlt, ?_⟩; (conv => whnf)
    refine ⟨_, at_eq hq hml, ?_⟩; (conv => whnf)
    refine ⟨_, set_eq hq hml, ?_⟩; (conv => whnf)
    refine ⟨((i + 1 : Nat) : Int), by rw [← wrap64_id] <;> omega, ?_⟩; (conv => whnf)
    exact lg_back (i + 1) (by omega) (by (try dsimp only); omega) (weak_of (by repeat (first | refine all_cons (by first | rfl | exact eq_int rfl (by first | rfl | omega | (simp; done) | (simp; omega)) | exact eq_loc rfl (by first | rfl | omega | (simp; done) | (simp; omega)) | exact eq_bool rfl (by simp_all)) ?_ | exact all_nil)) (by exact all_cons (eq_row rfl (by rw [hts]; exact (List.append_assoc _ [_] _).symm)) all_nil) rfl rfl)
  · have : i = x.length := by omega
    subst this
    (conv => whnf)
    split <;> rename_i hb
    case h_1 => simp at hb
    clear hb; (conv => whnf)
    exact ⟨close_row rfl rfl (by simp) (by simp), trivial⟩
theorem eqSnapS_c (x : List DSnap) (hl : x.length ≤ 4294967296) (hx : ∀ y ∈ x, y.ok) : Fun1 Try.prog 66 [.one (.row true 3 (x.map DSnap.enc)), .one (.row true 3 (x.map DSnap.enc))] (.one (.lit (.bool true))) := by
  refine fun1_of_vc tb_ok mix (fn := Try.f66) Try.func66 rfl (by kernel_rfl) (by kernel_rfl) (by simp [Try.f66]) (by rfl) ?_
  (conv => whnf)
  (first | (split <;> rename_i h <;> first | (exfalso; first | (simp at h; done) | (simp at h; omega) | (simp_all; done) | (simp_all; omega)) | (conv => whnf)) | skip)
  refine ⟨LG (fun i : Nat => i ≤ x.length) (fun i => x.length - i) (fun i => AS.of [(0, .one (.row true 3 (x.map DSnap.enc))), (1, .one (.row true 3 (x.map DSnap.enc))), (5, .one (.lit (.int .i64 (i : Nat))))] []), lg_init 0 (by omega) (weak_of (by repeat (first | refine all_cons (by first | rfl | exact eq_int rfl (by first | rfl | omega | (simp; done) | (simp; omega)) | exact eq_loc rfl (by first | rfl | omega | (simp; done) | (simp; omega)) | exact eq_bool rfl (by simp_all)) ?_ | exact all_nil)) (by repeat (first | refine all_cons (by first | rfl | exact eq_int rfl (by first | rfl | omega | (simp; done) | (simp; omega)) | exact eq_loc rfl (by first | rfl | omega | (simp; done) | (simp; omega)) | exact eq_bool rfl (by simp_all)) ?_ | exact all_nil)) rfl rfl), ?_⟩
  rintro σ k ⟨i, hi, rfl, rfl⟩
  refine ⟨_, Weak.refl _, ?_⟩
  (conv => whnf)
  (split <;> rename_i h <;> (try simp only [decide_eq_true_eq, decide_eq_false_iff_not, Bool.not_eq_true', Bool.not_eq_false', Bool.not_eq_true, Bool.not_eq_false, List.length_map] at h) <;> conv => whnf)
  · have hlt : i < x.length := by simpa using h
    refine ⟨i, rfl, _, at_map hlt, ?_⟩; (conv => whnf)
    refine ⟨i, rfl, _, at_map hlt, ?_⟩; (conv => whnf)
    have hy := hx x[i] (List.getElem_mem hlt)
    refine ⟨_, _, eqSnap_c x[i] hy, (by repeat' (first | exact lends_nil | exact lend_dead | apply lends_cons | apply lend_agg | apply lend_one | exact all2_nil | apply all2_cons | exact la_lit rfl | exact la_int (by first | rfl | omega) | exact la_row rfl rfl | exact la_loc rfl rfl rfl (by first | rfl | simp [mkL_length]) (by first | rfl | simp) | exact la_nil rfl | apply la_fn rfl | exact lend_same rfl rfl | exact lend_bor rfl rfl)), ?_⟩; (conv => whnf)
    refine ⟨((i + 1 : Nat) : Int), by rw [← wrap64_id] <;> omega, ?_⟩; (conv => whnf)
    exact lg_back (i + 1) (by omega) (by (try dsimp only); omega) (weak_of (by repeat (first | refine all_cons (by first | rfl | exact eq_int rfl (by first | rfl | omega | (simp; done) | (simp; omega)) | exact eq_loc rfl (by first | rfl | omega | (simp; done) | (simp; omega)) | exact eq_bool rfl (by simp_all)) ?_ | exact all_nil)) (by repeat (first | refine all_cons (by first | rfl | exact eq_int rfl (by first | rfl | omega | (simp; done) | (simp; omega)) | exact eq_loc rfl (by first | rfl | omega | (simp; done) | (simp; omega)) | exact eq_bool rfl (by simp_all)) ?_ | exact all_nil)) rfl rfl)
  · exact (by repeat' (first | exact trivial | exact close_int rfl | exact close_str rfl | exact close_bool rfl | exact close_int (by omega) | exact close_row rfl rfl (by first | rfl | simp) (by first | rfl | simp) | exact close_nil (by first | rfl | simp) | exact rfl | apply And.intro | apply closeTs_cons rfl))
theorem toPolicy_c (x : DPolicy) : Fun1 Try.prog 62 [.agg x.enc] (.agg x.enc) := by
  refine fun1_of_vc tb_ok mix (fn := Try.f62) Try.func62 rfl (by kernel_rfl) (by kernel_rfl) (by simp [Try.f62]) (by exact DPolicy.enc_nb _) ?_
  (conv => whnf)
  exact (by repeat' (first | exact trivial | exact close_int rfl | exact close_str rfl | exact close_bool rfl | exact close_int (by omega) | exact close_row rfl rfl (by first | rfl | simp) (by first | rfl | simp) | exact close_nil (by first | rfl | simp) | exact rfl | apply And.intro | apply closeTs_cons rfl))
theorem eqStringS_c (x : List ByteArray) (hl : x.length ≤ 4294967296) (hx : ∀ y ∈ x, y.size ≤ 4294967296) : Fun1 Try.prog 65 [.one (.row true 1 (x.map eStr)), .one (.row true 1 (x.map eStr))] (.one (.lit (.bool true))) := by
  refine fun1_of_vc tb_ok mix (fn := Try.f65) Try.func65 rfl (by kernel_rfl) (by kernel_rfl) (by simp [Try.f65]) (by rfl) ?_
  (conv => whnf)
  (first | (split <;> rename_i h <;> first | (exfalso; first | (simp at h; done) | (simp at h; omega) | (simp_all; done) | (simp_all; omega)) | (conv => whnf)) | skip)
  refine ⟨LG (fun i : Nat => i ≤ x.length) (fun i => x.length - i) (fun i => AS.of [(0, .one (.row true 1 (x.map eStr))), (1, .one (.row true 1 (x.map eStr))), (5, .one (.lit (.int .i64 (i : Nat))))] []), lg_init 0 (by omega) (weak_of (by repeat (first | refine all_cons (by first | rfl | exact eq_int rfl (by first | rfl | omega | (simp; done) | (simp; omega)) | exact eq_loc rfl (by first | rfl | omega | (simp; done) | (simp; omega)) | exact eq_bool rfl (by simp_all)) ?_ | exact all_nil)) (by repeat (first | refine all_cons (by first | rfl | exact eq_int rfl (by first | rfl | omega | (simp; done) | (simp; omega)) | exact eq_loc rfl (by first | rfl | omega | (simp; done) | (simp; omega)) | exact eq_bool rfl (by simp_all)) ?_ | exact all_nil)) rfl rfl), ?_⟩
  rintro σ k ⟨i, hi, rfl, rfl⟩
  refine ⟨_, Weak.refl _, ?_⟩
  (conv => whnf)
  (split <;> rename_i h <;> (try simp only [decide_eq_true_eq, decide_eq_false_iff_not, Bool.not_eq_true', Bool.not_eq_false', Bool.not_eq_true, Bool.not_eq_false, List.length_map] at h) <;> conv => whnf)
  · have hlt : i < x.length := by simpa using h
    refine ⟨i, rfl, _, at_map hlt, ?_⟩; (conv => whnf)
    refine ⟨i, rfl, _, at_map hlt, ?_⟩; (conv => whnf)
    (first | (split <;> rename_i h <;> first | (exfalso; first | (simp at h; done) | (simp at h; omega) | (simp_all; done) | (simp_all; omega)) | (conv => whnf)) | skip)
    refine ⟨((i + 1 : Nat) : Int), by rw [← wrap64_id] <;> omega, ?_⟩; (conv => whnf)
    exact lg_back (i + 1) (by omega) (by (try dsimp only); omega) (weak_of (by repeat (first | refine all_cons (by first | rfl | exact eq_int rfl (by first | rfl | omega | (simp; done) | (simp; omega)) | exact eq_loc rfl (by first | rfl | omega | (simp; done) | (simp; omega)) | exact eq_bool rfl (by simp_all)) ?_ | exact all_nil)) (by repeat (first | refine all_cons (by first | rfl | exact eq_int rfl (by first | rfl | omega | (simp; done) | (simp; omega)) | exact eq_loc rfl (by first | rfl | omega | (simp; done) | (simp; omega)) | exact eq_bool rfl (by simp_all)) ?_ | exact all_nil)) rfl rfl)
  · exact (by repeat' (first | exact trivial | exact close_int rfl | exact close_str rfl | exact close_bool rfl | exact close_int (by omega) | exact close_row rfl rfl (by first | rfl | simp) (by first | rfl | simp) | exact close_nil (by first | rfl | simp) | exact rfl | apply And.intro | apply closeTs_cons rfl))
theorem eqArrayOut_c (x : DArrayOut) (hx : x.ok) : Fun1 Try.prog 81 [.agg x.enc, .agg x.enc] (.one (.lit (.bool true))) := by
  unfold DArrayOut.ok at hx
  obtain ⟨hx0, hx1, hx2⟩ := hx
  refine fun1_of_vc tb_ok mix (fn := Try.f81) Try.func81 rfl (by kernel_rfl) (by kernel_rfl) (by simp [Try.f81]) (by rfl) ?_
  (conv => whnf)
  refine ⟨_, _, eqArray_c x.array hx0, (by repeat' (first | exact lends_nil | exact lend_dead | apply lends_cons | apply lend_agg | apply lend_one | exact all2_nil | apply all2_cons | exact la_lit rfl | exact la_int (by first | rfl | omega) | exact la_row rfl rfl | exact la_loc rfl rfl rfl (by first | rfl | simp [mkL_length]) (by first | rfl | simp) | exact la_nil rfl | apply la_fn rfl | exact lend_same rfl rfl | exact lend_bor rfl rfl)), ?_⟩; (conv => whnf)
  (first | (split <;> rename_i h <;> first | (exfalso; first | (simp at h; done) | (simp at h; omega) | (simp_all; done) | (simp_all; omega)) | (conv => whnf)) | skip)
  (first | (split <;> rename_i h <;> first | (exfalso; first | (simp at h; done) | (simp at h; omega) | (simp_all; done) | (simp_all; omega)) | (conv => whnf)) | skip)
  exact (by repeat' (first | exact trivial | exact close_int rfl | exact close_str rfl | exact close_bool rfl | exact close_int (by omega) | exact close_row rfl rfl (by first | rfl | simp) (by first | rfl | simp) | exact close_nil (by first | rfl | simp) | exact rfl | apply And.intro | apply closeTs_cons rfl))
end Go.Proofs.Ytlijeincckbdaaa
