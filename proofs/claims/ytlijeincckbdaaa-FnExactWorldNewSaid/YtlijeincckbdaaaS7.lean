/- Contracts: names of objects, and the steps that remove a file. -/
import Derived.Test.YtlijeincckbdaaaS6
namespace Go.Proofs.Ytlijeincckbdaaa
open Go.RowKit
set_option linter.unusedSimpArgs false
set_option linter.unusedVariables false
set_option maxRecDepth 100000
set_option maxHeartbeats 4000000
def objOk (s : ByteArray) : Bool := nameOk s 60 && !isTmp s
theorem nameOk_60 (s : ByteArray) : nameOk s 60 = (nameOk s 80 && decide ((s.size : Int) ≤ 60)) := by
  rw [Bool.eq_iff_iff]
  simp only [nameOk, Bool.and_eq_true, decide_eq_true_eq]
  constructor
  · rintro ⟨h1, h2, h3⟩; exact ⟨⟨h1, h2, by omega⟩, h3⟩
  · rintro ⟨⟨h1, h2, h3⟩, h4⟩; exact ⟨h1, h2, h4⟩
theorem objectImpl_c (s : ByteArray) (hs : s.size ≤ 4294967296) : Fun1 Try.prog 110 [.one (.lit (.string s))] (.one (.lit (.bool (objOk s)))) := by
  refine fun1_of_vc tb_ok mix (fn := Try.f110) Try.func110 rfl (by kernel_rfl) (by kernel_rfl) (by simp [Try.f110]) (by rfl) ?_
  (conv => whnf)
  refine ⟨_, _, isName_c s 60 hs, (by repeat' (first | exact lends_nil | exact lend_dead | apply lends_cons | apply lend_agg | apply lend_one | exact all2_nil | apply all2_cons | exact la_lit rfl | exact la_int (by first | rfl | omega) | exact la_row rfl rfl | exact la_loc rfl rfl rfl (by first | rfl | simp [mkL_length]) (by first | rfl | simp) | exact la_nil rfl | apply la_fn rfl | exact lend_same rfl rfl | exact lend_bor rfl rfl)), ?_⟩; (conv => whnf)
  (split <;> rename_i h <;> (try simp only [decide_eq_true_eq, decide_eq_false_iff_not, Bool.not_eq_true', Bool.not_eq_false', Bool.not_eq_true, Bool.not_eq_false, List.length_map] at h) <;> conv => whnf)
  · refine ⟨_, _, hasPrefix_c s ⟨#[116, 45]⟩, (by repeat' (first | exact lends_nil | exact lend_dead | apply lends_cons | apply lend_agg | apply lend_one | exact all2_nil | apply all2_cons | exact la_lit rfl | exact la_int (by first | rfl | omega) | exact la_row rfl rfl | exact la_loc rfl rfl rfl (by first | rfl | simp [mkL_length]) (by first | rfl | simp) | exact la_nil rfl | apply la_fn rfl | exact lend_same rfl rfl | exact lend_bor rfl rfl)), ?_⟩; (conv => whnf)
    exact ⟨close_bool (by rw [objOk, h]; rfl), trivial⟩
  · exact ⟨close_bool (by rw [objOk, h]; rfl), trivial⟩
theorem objectSpec_c (s : ByteArray) (hs : s.size ≤ 4294967296) : Fun1 Try.prog 108 [.one (.lit (.string s))] (.one (.lit (.bool (objOk s)))) := by
  refine fun1_of_vc tb_ok mix (fn := Try.f108) Try.func108 rfl (by kernel_rfl) (by kernel_rfl) (by simp [Try.f108]) (by rfl) ?_
  (conv => whnf)
  refine ⟨_, _, nameSpec_c s hs, (by repeat' (first | exact lends_nil | exact lend_dead | apply lends_cons | apply lend_agg | apply lend_one | exact all2_nil | apply all2_cons | exact la_lit rfl | exact la_int (by first | rfl | omega) | exact la_row rfl rfl | exact la_loc rfl rfl rfl (by first | rfl | simp [mkL_length]) (by first | rfl | simp) | exact la_nil rfl | apply la_fn rfl | exact lend_same rfl rfl | exact lend_bor rfl rfl)), ?_⟩; (conv => whnf)
  (split <;> rename_i h <;> (try simp only [decide_eq_true_eq, decide_eq_false_iff_not, Bool.not_eq_true', Bool.not_eq_false', Bool.not_eq_true, Bool.not_eq_false, List.length_map] at h) <;> conv => whnf)
  · (split <;> rename_i h2 <;> (try simp only [decide_eq_true_eq, decide_eq_false_iff_not, Bool.not_eq_true', Bool.not_eq_false', Bool.not_eq_true, Bool.not_eq_false, List.length_map] at h2) <;> conv => whnf)
    · have h60 : nameOk s 60 = true := by rw [nameOk_60, h]; simp [h2]
      (split <;> rename_i h3 <;> (try simp only [decide_eq_true_eq, decide_eq_false_iff_not, Bool.not_eq_true', Bool.not_eq_false', Bool.not_eq_true, Bool.not_eq_false, List.length_map] at h3) <;> conv => whnf)
      · exact ⟨close_bool (by simp [objOk, h60, isTmp]; omega), trivial⟩
      · refine ⟨by simp, by simp, by simp; omega, _, rfl, ?_⟩; (conv => whnf)
        exact ⟨close_bool (by
          have h4 : 2 ≤ s.size := by omega
          simp only [objOk, h60, isTmp, h4, decide_true, Bool.true_and]
          rfl), trivial⟩
    · exact ⟨close_bool (by rw [objOk, nameOk_60, h]; simp [h2]), trivial⟩
  · exact ⟨close_bool (by rw [objOk, nameOk_60, h]; simp), trivial⟩
theorem has_c (d : DDrive) (hd : driveOk d = true) (name : ByteArray) (hl : d.files.length ≤ 4294967296) : Fun1 Try.prog 187 [.agg d.enc, .one (.lit (.string name))] (.one (.lit (.bool (hasN d.files name)))) := by
  refine fun1_of_vc tb_ok mix (fn := Try.f187) Try.func187 rfl (by kernel_rfl) (by kernel_rfl) (by simp [Try.f187]) (by rfl) ?_
  (conv => whnf)
  refine ⟨_, _, find_c d hd name hl, (by repeat' (first | exact lends_nil | exact lend_dead | apply lends_cons | apply lend_agg | apply lend_one | exact all2_nil | apply all2_cons | exact la_lit rfl | exact la_int (by first | rfl | omega) | exact la_row rfl rfl | exact la_loc rfl rfl rfl (by first | rfl | simp [mkL_length]) (by first | rfl | simp) | exact la_nil rfl | apply la_fn rfl | exact lend_same rfl rfl | exact lend_bor rfl rfl)), ?_⟩; (conv => whnf)
  exact (by repeat' (first | exact trivial | exact close_int rfl | exact close_str rfl | exact close_bool rfl | exact close_int (by omega) | exact close_row rfl rfl (by first | rfl | simp) (by first | rfl | simp) | exact close_nil (by first | rfl | simp) | exact rfl | apply And.intro | apply closeTs_cons rfl))
def rmF (name : ByteArray) (i : Nat) (d : DDrive) : List DStep := if hasN d.files name = true then [rmStep i name] else []
theorem rmF_len (name : ByteArray) (i : Nat) (d : DDrive) : (rmF name i d).length ≤ 1 := by unfold rmF; split <;> simp
theorem sum_one {α : Type} (l : List α) : (l.map fun _ => 1).sum = l.length := by induction l with | nil => rfl | cons x l ih => simp only [List.map_cons, List.sum_cons, List.length_cons, ih]; omega
theorem removeImpl_c (x : DArray) (hx : x.ok) (hd : ∀ d ∈ x.drives, driveOk d = true) (name : ByteArray) : Fun1 Try.prog 111 [.agg x.enc, .one (.lit (.string name))] (.one (.row true 5 ((accI (rmF name) 0 x.drives).map DStep.enc))) := by
  obtain ⟨hk, hm, hl, hdo⟩ := hx
  refine fun1_of_vc tb_ok mix (fn := Try.f111) Try.func111 rfl (by kernel_rfl) (by kernel_rfl) (by simp [Try.f111]) (by show AV.nb (4 + 1) _ = true; exact nb_map (n := 4) (fun y => DStep.enc_nbn 4 y) _) ?_
  (conv => whnf)
  refine ⟨LG (fun i : Nat => i ≤ x.drives.length) (fun i => x.drives.length - i) (fun i => AS.of [(1, .one (.lit (.string name))), (5, .one (.loc 400 0 (accI (rmF name) 0 (x.drives.take i)).length)), (9, .one (.row false 2 (x.drives.map DDrive.enc))), (10, .one (.lit (.int .i64 (x.drives.length : Nat)))), (11, .one (.lit (.int .i64 (i : Nat))))] [(400, .row true 5 ((accI (rmF name) 0 (x.drives.take i)).map DStep.enc))]), lg_init 0 (by omega) (weak_nil 5 400 5 rfl rfl (weak_of (by repeat (first | refine all_cons (by first | rfl | exact eq_int rfl (by first | rfl | omega | (simp; done) | (simp; omega)) | exact eq_loc rfl (by first | rfl | omega | (simp; done) | (simp; omega)) | exact eq_bool rfl (by simp_all)) ?_ | exact all_nil)) (by repeat (first | refine all_cons (by first | rfl | exact eq_int rfl (by first | rfl | omega | (simp; done) | (simp; omega)) | exact eq_loc rfl (by first | rfl | omega | (simp; done) | (simp; omega)) | exact eq_bool rfl (by simp_all)) ?_ | exact all_nil)) rfl rfl)), ?_⟩
  rintro σ k ⟨i, hi, rfl, rfl⟩
  refine ⟨_, Weak.refl _, ?_⟩
  (conv => whnf)
  (split <;> rename_i h <;> (try simp only [decide_eq_true_eq, decide_eq_false_iff_not, Bool.not_eq_true', Bool.not_eq_false', Bool.not_eq_true, Bool.not_eq_false, List.length_map] at h) <;> conv => whnf)
  · have hlt : i < x.drives.length := by omega
    have hts := accI_take_succ (f := rmF name) hlt
    have hle := accI_len_le (f := rmF name) (g := fun _ => 1) (rmF_len name) x.drives i
    rw [sum_one] at hle
    refine ⟨i, rfl, _, at_map hlt, ?_⟩; (conv => whnf)
    refine ⟨_, _, has_c x.drives[i] (hd _ (List.getElem_mem hlt)) name (hdo _ (List.getElem_mem hlt)).1.1, (by repeat' (first | exact lends_nil | exact lend_dead | apply lends_cons | apply lend_agg | apply lend_one | exact all2_nil | apply all2_cons | exact la_lit rfl | exact la_int (by first | rfl | omega) | exact la_row rfl rfl | exact la_loc rfl rfl rfl (by first | rfl | simp [mkL_length]) (by first | rfl | simp) | exact la_nil rfl | apply la_fn rfl | exact lend_same rfl rfl | exact lend_bor rfl rfl)), ?_⟩; (conv => whnf)
    (split <;> rename_i h3 <;> (try simp only [decide_eq_true_eq, decide_eq_false_iff_not, Bool.not_eq_true', Bool.not_eq_false', Bool.not_eq_true, Bool.not_eq_false, List.length_map] at h3) <;> conv => whnf)
    · have hr : rmF name i x.drives[i] = [rmStep i name] := by rw [rmF, if_pos h3]
      rw [hr] at hts
      have hmk : (accI (rmF name) 0 (x.drives.take (i + 1))).map DStep.enc = (accI (rmF name) 0 (x.drives.take i)).map DStep.enc ++ [(rmStep i name).enc] := by rw [hts, List.map_append]; rfl
      refine ⟨_, _, ⟨rfl, Nat.le_refl _, rfl, rfl⟩, ?_⟩; (conv => whnf)
      refine ⟨_, rfl, rfl, by simp, rfl, by simp [maxLen, chunk]; omega, by simp [chunk]; omega, ?_⟩; (conv => whnf)
      (refine ⟨((i + 1 : Nat) : Int), by rw [← wrap64_id] <;> omega, ?_⟩; conv => whnf)
      exact lg_back (i + 1) (by omega) (by (try dsimp only); omega) (weak_of (all_cons rfl (all_cons (eq_loc rfl (by rw [hts]; simp [chunk])) (all_cons rfl (all_cons rfl (all_cons rfl all_nil))))) (all_cons (eq_row rfl (by rw [hmk]; rfl)) all_nil) rfl rfl)
    · have hr : rmF name i x.drives[i] = [] := by rw [rmF, if_neg (by simp [h3])]
      rw [hr, List.append_nil] at hts
      (refine ⟨((i + 1 : Nat) : Int), by rw [← wrap64_id] <;> omega, ?_⟩; conv => whnf)
      exact lg_back (i + 1) (by omega) (by (try dsimp only); omega) (weak_of (all_cons rfl (all_cons (eq_loc rfl (by rw [hts])) (all_cons rfl (all_cons rfl (all_cons rfl all_nil))))) (all_cons (eq_row rfl (by rw [hts])) all_nil) rfl rfl)
  · have : i = x.drives.length := by omega
    subst this
    rw [List.take_length]
    exact ⟨close_row rfl rfl (by simp) (by simp), trivial⟩
theorem findI_nonneg {fs : List DStored} {name : ByteArray} : (0 ≤ findI fs name) ↔ hasN fs name = true := by
  unfold findI; split <;> rename_i h <;> simp [h]
theorem removeSpec_c (x : DArray) (hx : x.ok) (name : ByteArray) : Fun1 Try.prog 109 [.agg x.enc, .one (.lit (.string name))] (.one (.row true 5 ((accI (rmF name) 0 x.drives).map DStep.enc))) := by
  obtain ⟨hk, hm, hl, hdo⟩ := hx
  refine fun1_of_vc tb_ok mix (fn := Try.f109) Try.func109 rfl (by kernel_rfl) (by kernel_rfl) (by simp [Try.f109]) (by show AV.nb (4 + 1) _ = true; exact nb_map (n := 4) (fun y => DStep.enc_nbn 4 y) _) ?_
  (conv => whnf)
  refine ⟨LG (fun i : Nat => i ≤ x.drives.length) (fun i => x.drives.length - i) (fun i => AS.of [(1, .one (.lit (.string name))), (2, .one (.ptr 32 0)), (5, .one (.loc 112 0 (accI (rmF name) 0 (x.drives.take i)).length)), (6, .one (.lit (.int .i64 (i : Nat))))] [(32, .var x.enc), (112, .row true 5 ((accI (rmF name) 0 (x.drives.take i)).map DStep.enc))]), lg_init 0 (by omega) (weak_of (by repeat (first | refine all_cons (by first | rfl | exact eq_int rfl (by first | rfl | omega | (simp; done) | (simp; omega)) | exact eq_loc rfl (by first | rfl | omega | (simp; done) | (simp; omega)) | exact eq_bool rfl (by simp_all)) ?_ | exact all_nil)) (by repeat (first | refine all_cons (by first | rfl | exact eq_int rfl (by first | rfl | omega | (simp; done) | (simp; omega)) | exact eq_loc rfl (by first | rfl | omega | (simp; done) | (simp; omega)) | exact eq_bool rfl (by simp_all)) ?_ | exact all_nil)) rfl rfl), ?_⟩
  rintro σ k ⟨i, hi, rfl, rfl⟩
  refine ⟨_, Weak.refl _, ?_⟩
  (conv => whnf)
  (split <;> rename_i h <;> (try simp only [decide_eq_true_eq, decide_eq_false_iff_not, Bool.not_eq_true', Bool.not_eq_false', Bool.not_eq_true, Bool.not_eq_false, List.length_map] at h) <;> conv => whnf)
  · have hlt : i < x.drives.length := by omega
    have hts := accI_take_succ (f := rmF name) hlt
    have hle := accI_len_le (f := rmF name) (g := fun _ => 1) (rmF_len name) x.drives i
    rw [sum_one] at hle
    refine ⟨i, rfl, _, at_map hlt, ?_⟩; (conv => whnf)
    refine ⟨_, _, l08Find_c x.drives[i] name (hdo _ (List.getElem_mem hlt)).1.1, (by repeat' (first | exact lends_nil | exact lend_dead | apply lends_cons | apply lend_agg | apply lend_one | exact all2_nil | apply all2_cons | exact la_lit rfl | exact la_int (by first | rfl | omega) | exact la_row rfl rfl | exact la_loc rfl rfl rfl (by first | rfl | simp [mkL_length]) (by first | rfl | simp) | exact la_nil rfl | apply la_fn rfl | exact lend_same rfl rfl | exact lend_bor rfl rfl)), ?_⟩; (conv => whnf)
    (split <;> rename_i h3 <;> (try simp only [decide_eq_true_eq, decide_eq_false_iff_not, Bool.not_eq_true', Bool.not_eq_false', Bool.not_eq_true, Bool.not_eq_false, List.length_map] at h3) <;> conv => whnf)
    · have hr : rmF name i x.drives[i] = [rmStep i name] := by rw [rmF, if_pos (findI_nonneg.1 h3)]
      rw [hr] at hts
      have hmk : (accI (rmF name) 0 (x.drives.take (i + 1))).map DStep.enc = (accI (rmF name) 0 (x.drives.take i)).map DStep.enc ++ [(rmStep i name).enc] := by rw [hts, List.map_append]; rfl
      refine ⟨_, _, ⟨rfl, Nat.le_refl _, rfl, rfl⟩, ?_⟩; (conv => whnf)
      refine ⟨_, rfl, rfl, by simp, rfl, by simp [maxLen, chunk]; omega, by simp [chunk]; omega, ?_⟩; (conv => whnf)
      (refine ⟨((i + 1 : Nat) : Int), by rw [← wrap64_id] <;> omega, ?_⟩; conv => whnf)
      exact lg_back (i + 1) (by omega) (by (try dsimp only); omega) (weak_of (all_cons rfl (all_cons rfl (all_cons (eq_loc rfl (by rw [hts]; simp [chunk])) (all_cons rfl all_nil)))) (all_cons rfl (all_cons (eq_row rfl (by rw [hmk]; rfl)) all_nil)) rfl rfl)
    · have hr : rmF name i x.drives[i] = [] := by rw [rmF, if_neg (fun h => h3 (findI_nonneg.2 h))]
      rw [hr, List.append_nil] at hts
      (refine ⟨((i + 1 : Nat) : Int), by rw [← wrap64_id] <;> omega, ?_⟩; conv => whnf)
      exact lg_back (i + 1) (by omega) (by (try dsimp only); omega) (weak_of (all_cons rfl (all_cons rfl (all_cons (eq_loc rfl (by rw [hts])) (all_cons rfl all_nil)))) (all_cons rfl (all_cons (eq_row rfl (by rw [hts])) all_nil)) rfl rfl)
  · have : i = x.drives.length := by omega
    subst this
    rw [List.take_length]
    exact ⟨close_row rfl rfl (by simp) (by simp), trivial⟩
def removeR (x : DArray) (name : ByteArray) : List DStep := if (name.size : Int) ≤ 20000 ∧ arrayOk x = true ∧ objOk name = true then accI (rmF name) 0 x.drives else []
theorem removeStepsSpec_c (x : DArray) (hx : x.ok) (hu : ∀ d ∈ x.drives, usedN d.files ≤ 1000000000000) (name : ByteArray) (hn : name.size ≤ 4294967296) : Fun1 Try.prog 31 [.agg x.enc, .one (.lit (.string name))] (.one (.row true 5 ((removeR x name).map DStep.enc))) := by
  refine fun1_of_vc tb_ok mix (fn := Try.f31) Try.func31 rfl (by kernel_rfl) (by kernel_rfl) (by simp [Try.f31]) (by show AV.nb (4 + 1) _ = true; exact nb_map (n := 4) (fun y => DStep.enc_nbn 4 y) _) ?_
  (conv => whnf)
  (split <;> rename_i h1 <;> (try simp only [decide_eq_true_eq, decide_eq_false_iff_not, Bool.not_eq_true', Bool.not_eq_false', Bool.not_eq_true, Bool.not_eq_false, List.length_map] at h1) <;> conv => whnf)
  · exact ⟨close_row rfl rfl rfl (by rw [removeR, if_neg (by omega)]; rfl), trivial⟩
  refine ⟨_, _, arraySpec_c x hx hu, (by repeat' (first | exact lends_nil | exact lend_dead | apply lends_cons | apply lend_agg | apply lend_one | exact all2_nil | apply all2_cons | exact la_lit rfl | exact la_int (by first | rfl | omega) | exact la_row rfl rfl | exact la_loc rfl rfl rfl (by first | rfl | simp [mkL_length]) (by first | rfl | simp) | exact la_nil rfl | apply la_fn rfl | exact lend_same rfl rfl | exact lend_bor rfl rfl)), ?_⟩; (conv => whnf)
  (split <;> rename_i h2 <;> (try simp only [decide_eq_true_eq, decide_eq_false_iff_not, Bool.not_eq_true', Bool.not_eq_false', Bool.not_eq_true, Bool.not_eq_false, List.length_map] at h2) <;> conv => whnf)
  · exact ⟨close_row rfl rfl rfl (by rw [removeR, if_neg (by simp [h2])]; rfl), trivial⟩
  refine ⟨_, _, objectSpec_c name hn, (by repeat' (first | exact lends_nil | exact lend_dead | apply lends_cons | apply lend_agg | apply lend_one | exact all2_nil | apply all2_cons | exact la_lit rfl | exact la_int (by first | rfl | omega) | exact la_row rfl rfl | exact la_loc rfl rfl rfl (by first | rfl | simp [mkL_length]) (by first | rfl | simp) | exact la_nil rfl | apply la_fn rfl | exact lend_same rfl rfl | exact lend_bor rfl rfl)), ?_⟩; (conv => whnf)
  (split <;> rename_i h3 <;> (try simp only [decide_eq_true_eq, decide_eq_false_iff_not, Bool.not_eq_true', Bool.not_eq_false', Bool.not_eq_true, Bool.not_eq_false, List.length_map] at h3) <;> conv => whnf)
  · exact ⟨close_row rfl rfl rfl (by rw [removeR, if_neg (by simp [h3])]; rfl), trivial⟩
  refine ⟨_, _, removeSpec_c x hx name, (by repeat' (first | exact lends_nil | exact lend_dead | apply lends_cons | apply lend_agg | apply lend_one | exact all2_nil | apply all2_cons | exact la_lit rfl | exact la_int (by first | rfl | omega) | exact la_row rfl rfl | exact la_loc rfl rfl rfl (by first | rfl | simp [mkL_length]) (by first | rfl | simp) | exact la_nil rfl | apply la_fn rfl | exact lend_same rfl rfl | exact lend_bor rfl rfl)), ?_⟩; (conv => whnf)
  exact ⟨close_row rfl rfl rfl (by rw [removeR, if_pos ⟨by omega, h2, h3⟩]), trivial⟩
theorem removeStepsImpl_c (x : DArray) (hx : x.ok) (hu : ∀ d ∈ x.drives, usedN d.files ≤ 1000000000000) (name : ByteArray) (hn : name.size ≤ 4294967296) : Fun1 Try.prog 32 [.agg x.enc, .one (.lit (.string name))] (.one (.row true 5 ((removeR x name).map DStep.enc))) := by
  refine fun1_of_vc tb_ok mix (fn := Try.f32) Try.func32 rfl (by kernel_rfl) (by kernel_rfl) (by simp [Try.f32]) (by show AV.nb (4 + 1) _ = true; exact nb_map (n := 4) (fun y => DStep.enc_nbn 4 y) _) ?_
  (conv => whnf)
  refine ⟨_, _, isLong_c name, (by repeat' (first | exact lends_nil | exact lend_dead | apply lends_cons | apply lend_agg | apply lend_one | exact all2_nil | apply all2_cons | exact la_lit rfl | exact la_int (by first | rfl | omega) | exact la_row rfl rfl | exact la_loc rfl rfl rfl (by first | rfl | simp [mkL_length]) (by first | rfl | simp) | exact la_nil rfl | apply la_fn rfl | exact lend_same rfl rfl | exact lend_bor rfl rfl)), ?_⟩; (conv => whnf)
  (split <;> rename_i h1 <;> (try simp only [decide_eq_true_eq, decide_eq_false_iff_not, Bool.not_eq_true', Bool.not_eq_false', Bool.not_eq_true, Bool.not_eq_false, List.length_map] at h1) <;> conv => whnf)
  · exact ⟨close_nil (by rw [removeR, if_neg (by omega)]; rfl), trivial⟩
  refine ⟨_, _, arrayImpl_c x hx hu, (by repeat' (first | exact lends_nil | exact lend_dead | apply lends_cons | apply lend_agg | apply lend_one | exact all2_nil | apply all2_cons | exact la_lit rfl | exact la_int (by first | rfl | omega) | exact la_row rfl rfl | exact la_loc rfl rfl rfl (by first | rfl | simp [mkL_length]) (by first | rfl | simp) | exact la_nil rfl | apply la_fn rfl | exact lend_same rfl rfl | exact lend_bor rfl rfl)), ?_⟩; (conv => whnf)
  (split <;> rename_i h2 <;> (try simp only [decide_eq_true_eq, decide_eq_false_iff_not, Bool.not_eq_true', Bool.not_eq_false', Bool.not_eq_true, Bool.not_eq_false, List.length_map] at h2) <;> conv => whnf)
  · exact ⟨close_nil (by rw [removeR, if_neg (by simp [h2])]; rfl), trivial⟩
  refine ⟨_, _, objectImpl_c name hn, (by repeat' (first | exact lends_nil | exact lend_dead | apply lends_cons | apply lend_agg | apply lend_one | exact all2_nil | apply all2_cons | exact la_lit rfl | exact la_int (by first | rfl | omega) | exact la_row rfl rfl | exact la_loc rfl rfl rfl (by first | rfl | simp [mkL_length]) (by first | rfl | simp) | exact la_nil rfl | apply la_fn rfl | exact lend_same rfl rfl | exact lend_bor rfl rfl)), ?_⟩; (conv => whnf)
  (split <;> rename_i h3 <;> (try simp only [decide_eq_true_eq, decide_eq_false_iff_not, Bool.not_eq_true', Bool.not_eq_false', Bool.not_eq_true, Bool.not_eq_false, List.length_map] at h3) <;> conv => whnf)
  · exact ⟨close_nil (by rw [removeR, if_neg (by simp [h3])]; rfl), trivial⟩
  refine ⟨_, _, removeImpl_c x hx (arrayOk_len h2).2.1 name, (by repeat' (first | exact lends_nil | exact lend_dead | apply lends_cons | apply lend_agg | apply lend_one | exact all2_nil | apply all2_cons | exact la_lit rfl | exact la_int (by first | rfl | omega) | exact la_row rfl rfl | exact la_loc rfl rfl rfl (by first | rfl | simp [mkL_length]) (by first | rfl | simp) | exact la_nil rfl | apply la_fn rfl | exact lend_same rfl rfl | exact lend_bor rfl rfl)), ?_⟩; (conv => whnf)
  exact ⟨close_row rfl rfl rfl (by rw [removeR, if_pos ⟨by omega, h2, h3⟩]), trivial⟩
end Go.Proofs.Ytlijeincckbdaaa
