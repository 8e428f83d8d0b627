/- Contracts: the steps that clean, and those that remove a file. -/
import Derived.Test.YtlijeincckbdaaaS5
namespace Go.Proofs.Ytlijeincckbdaaa
open Go.RowKit
set_option linter.unusedSimpArgs false
set_option linter.unusedVariables false
set_option maxRecDepth 100000
set_option maxHeartbeats 4000000
theorem names_c (d : DDrive) (hd : d.ok) : Fun1 Try.prog 182 [.agg d.enc] (.one (.row true 1 ((d.files.map DStored.name).map eStr))) := by
  obtain ⟨⟨hl, hf⟩, hr⟩ := hd
  refine fun1_of_vc tb_ok mix (fn := Try.f182) Try.func182 rfl (by kernel_rfl) (by kernel_rfl) (by simp [Try.f182]) (by show AV.nb (4 + 1) _ = true; exact nb_map (n := 4) (fun y => eStr_nbn 4 y) _) ?_
  (conv => whnf)
  refine ⟨LG (fun i : Nat => i ≤ d.files.length) (fun i => d.files.length - i) (fun i => AS.of [(3, .one (.loc 272 0 i)), (7, .one (.row false 3 (d.files.map DStored.enc))), (8, .one (.lit (.int .i64 (d.files.length : Nat)))), (9, .one (.lit (.int .i64 (i : Nat))))] [(272, .row true 1 (((d.files.take i).map DStored.name).map eStr))]), lg_init 0 (by omega) (weak_nil 3 272 1 rfl rfl (weak_of (by repeat (first | refine all_cons (by first | rfl | exact eq_int rfl (by first | rfl | omega | (simp; done) | (simp; omega)) | exact eq_loc rfl (by first | rfl | omega | (simp; done) | (simp; omega)) | exact eq_bool rfl (by simp_all)) ?_ | exact all_nil)) (by repeat (first | refine all_cons (by first | rfl | exact eq_int rfl (by first | rfl | omega | (simp; done) | (simp; omega)) | exact eq_loc rfl (by first | rfl | omega | (simp; done) | (simp; omega)) | exact eq_bool rfl (by simp_all)) ?_ | exact all_nil)) rfl rfl)), ?_⟩
  rintro σ k ⟨i, hi, rfl, rfl⟩
  refine ⟨_, Weak.refl _, ?_⟩
  (conv => whnf)
  (split <;> rename_i h <;> (try simp only [decide_eq_true_eq, decide_eq_false_iff_not, Bool.not_eq_true', Bool.not_eq_false', Bool.not_eq_true, Bool.not_eq_false, List.length_map] at h) <;> conv => whnf)
  · have hlt : i < d.files.length := by omega
    have hts : ((d.files.take (i + 1)).map DStored.name).map eStr = ((d.files.take i).map DStored.name).map eStr ++ [eStr d.files[i].name] := by
      rw [List.take_succ_eq_append_getElem hlt, List.map_append, List.map_append]; rfl
    refine ⟨i, rfl, _, at_map hlt, ?_⟩; (conv => whnf)
    refine ⟨_, _, ⟨rfl, Nat.le_refl _, rfl, rfl⟩, ?_⟩; (conv => whnf)
    refine ⟨_, rfl, rfl, by simp; omega, rfl, by simp [maxLen, chunk]; omega, by simp [chunk]; omega, ?_⟩; (conv => whnf)
    (refine ⟨((i + 1 : Nat) : Int), by rw [← wrap64_id] <;> omega, ?_⟩; conv => whnf)
    exact lg_back (i + 1) (by omega) (by (try dsimp only); omega) (weak_of (all_cons (eq_loc rfl (by simp [chunk]; omega)) (all_cons rfl (all_cons rfl (all_cons rfl all_nil)))) (all_cons (eq_row rfl (by rw [hts]; rfl)) all_nil) rfl rfl)
  · have : i = d.files.length := by omega
    subst this
    exact ⟨close_row rfl rfl (by simp) (by simp), trivial⟩
theorem cleanImpl_c (x : DArray) (hx : x.ok) (hs : (x.drives.map fun d => d.files.length).sum ≤ 1000000) : Fun1 Try.prog 103 [.agg x.enc] (.one (.row true 5 ((cleanA x).map DStep.enc))) := by
  obtain ⟨hk, hm, hl, hd⟩ := hx
  refine fun1_of_vc tb_ok mix (fn := Try.f103) Try.func103 rfl (by kernel_rfl) (by kernel_rfl) (by simp [Try.f103]) (by show AV.nb (4 + 1) _ = true; exact nb_map (n := 4) (fun y => DStep.enc_nbn 4 y) _) ?_
  (conv => whnf)
  refine ⟨LG (fun i : Nat => i ≤ x.drives.length) (fun i => x.drives.length - i) (fun i => AS.of [(3, .one (.loc 496 0 (accI cleanD 0 (x.drives.take i)).length)), (9, .one (.row false 2 (x.drives.map DDrive.enc))), (10, .one (.lit (.int .i64 (x.drives.length : Nat)))), (11, .one (.lit (.int .i64 (i : Nat))))] [(496, .row true 5 ((accI cleanD 0 (x.drives.take i)).map DStep.enc))]), lg_init 0 (by omega) (weak_nil 3 496 5 rfl rfl (weak_of (by repeat (first | refine all_cons (by first | rfl | exact eq_int rfl (by first | rfl | omega | (simp; done) | (simp; omega)) | exact eq_loc rfl (by first | rfl | omega | (simp; done) | (simp; omega)) | exact eq_bool rfl (by simp_all)) ?_ | exact all_nil)) (by repeat (first | refine all_cons (by first | rfl | exact eq_int rfl (by first | rfl | omega | (simp; done) | (simp; omega)) | exact eq_loc rfl (by first | rfl | omega | (simp; done) | (simp; omega)) | exact eq_bool rfl (by simp_all)) ?_ | exact all_nil)) rfl rfl)), ?_⟩
  rintro σ k ⟨i, hi, rfl, rfl⟩
  refine ⟨_, Weak.refl _, ?_⟩
  (conv => whnf)
  (split <;> rename_i h <;> (try simp only [decide_eq_true_eq, decide_eq_false_iff_not, Bool.not_eq_true', Bool.not_eq_false', Bool.not_eq_true, Bool.not_eq_false, List.length_map] at h) <;> conv => whnf)
  · have hlt : i < x.drives.length := by omega
    have hts := accI_take_succ (f := cleanD) hlt
    have hle := accI_len_le (f := cleanD) (g := fun d => d.files.length) cleanD_len x.drives (i + 1)
    rw [hts, List.length_append] at hle
    refine ⟨i, rfl, _, at_map hlt, ?_⟩; (conv => whnf)
    refine ⟨_, _, names_c x.drives[i] (hd _ (List.getElem_mem hlt)), (by repeat' (first | exact lends_nil | exact lend_dead | apply lends_cons | apply lend_agg | apply lend_one | exact all2_nil | apply all2_cons | exact la_lit rfl | exact la_int (by first | rfl | omega) | exact la_row rfl rfl | exact la_loc rfl rfl rfl (by first | rfl | simp [mkL_length]) (by first | rfl | simp) | exact la_nil rfl | apply la_fn rfl | exact lend_same rfl rfl | exact lend_bor rfl rfl)), ?_⟩; (conv => whnf)
    have hdi := (hd _ (List.getElem_mem hlt)).1.1
    generalize hA : accI cleanD 0 (x.drives.take i) = A at *
    generalize hD : x.drives[i] = D at *
    refine ⟨LG (fun k : Nat => k ≤ D.files.length) (fun k => D.files.length - k) (fun k => AS.of [(3, .one (.loc 496 0 (A ++ ((D.files.take k).filter fun f => isTmp f.name).map fun f => rmStep i f.name).length)), (4, .one (.lit (.int .i64 (i : Nat)))), (9, .one (.row false 2 (x.drives.map DDrive.enc))), (10, .one (.lit (.int .i64 (x.drives.length : Nat)))), (11, .one (.lit (.int .i64 (i : Nat)))), (17, .one (.loc 272 0 D.files.length)), (18, .one (.lit (.int .i64 (D.files.length : Nat)))), (19, .one (.lit (.int .i64 (k : Nat))))]
      [(496, .row true 5 ((A ++ ((D.files.take k).filter fun f => isTmp f.name).map fun f => rmStep i f.name).map DStep.enc)), (272, .row true 1 ((D.files.map DStored.name).map eStr))]),
      lg_init 0 (by omega) (weak_of (all_cons (eq_loc rfl (by rw [← hA]; simp)) (all_cons rfl (all_cons rfl (all_cons rfl (all_cons rfl (all_cons (eq_loc rfl (by simp)) (all_cons (eq_int rfl (by simp)) (all_cons rfl all_nil)))))))) (all_cons (eq_row rfl (by rw [← hA]; simp)) (all_cons rfl all_nil)) rfl rfl), ?_⟩
    rintro σ m ⟨k, hki, rfl, rfl⟩
    refine ⟨_, Weak.refl _, ?_⟩
    (conv => whnf)
    (split <;> rename_i h2 <;> (try simp only [decide_eq_true_eq, decide_eq_false_iff_not, Bool.not_eq_true', Bool.not_eq_false', Bool.not_eq_true, Bool.not_eq_false, List.length_map] at h2) <;> conv => whnf)
    · have hlk : k < D.files.length := by omega
      have htk := filterMap_take_succ (p := fun f : DStored => isTmp f.name) (f := fun f => rmStep i f.name) hlk
      have hkl : (((D.files.take k).filter fun f => isTmp f.name).map fun f => rmStep i f.name).length ≤ k := by
        rw [List.length_map]; exact Nat.le_trans (List.length_filter_le _ _) (by rw [List.length_take]; omega)
      refine ⟨k, rfl, hlk, ?_⟩; (conv => whnf)
      refine ⟨_, (by rw [Nat.zero_add, List.map_map]; exact at_map hlk), ?_⟩; (conv => whnf)
      refine ⟨_, _, isTemp_c D.files[k].name, (by repeat' (first | exact lends_nil | exact lend_dead | apply lends_cons | apply lend_agg | apply lend_one | exact all2_nil | apply all2_cons | exact la_lit rfl | exact la_int (by first | rfl | omega) | exact la_row rfl rfl | exact la_loc rfl rfl rfl (by first | rfl | simp [mkL_length]) (by first | rfl | simp) | exact la_nil rfl | apply la_fn rfl | exact lend_same rfl rfl | exact lend_bor rfl rfl)), ?_⟩; (conv => whnf)
      (split <;> rename_i h3 <;> (try simp only [decide_eq_true_eq, decide_eq_false_iff_not, Bool.not_eq_true', Bool.not_eq_false', Bool.not_eq_true, Bool.not_eq_false, List.length_map] at h3) <;> conv => whnf)
      · rw [if_pos h3] at htk
        have hmk : (A ++ ((D.files.take (k + 1)).filter fun f => isTmp f.name).map fun f => rmStep i f.name).map DStep.enc = (A ++ ((D.files.take k).filter fun f => isTmp f.name).map fun f => rmStep i f.name).map DStep.enc ++ [(rmStep i D.files[k].name).enc] := by rw [htk, ← List.append_assoc, List.map_append]; rfl
        refine ⟨_, _, ⟨rfl, Nat.le_refl _, rfl, rfl⟩, ?_⟩; (conv => whnf)
        refine ⟨_, rfl, rfl, by simp, rfl, by simp [maxLen, chunk] at *; omega, by simp [chunk] at *; omega, ?_⟩; (conv => whnf)
        refine ⟨((k + 1 : Nat) : Int), by rw [← wrap64_id] <;> omega, ?_⟩; (conv => whnf)
        exact lg_back (k + 1) (by omega) (by (try dsimp only); omega) (weak_of (all_cons (eq_loc rfl (by rw [htk]; simp [chunk]; omega)) (all_cons rfl (all_cons rfl (all_cons rfl (all_cons rfl (all_cons rfl (all_cons rfl (all_cons rfl all_nil)))))))) (all_cons (eq_row rfl (by rw [hmk]; rfl)) (all_cons rfl all_nil)) rfl rfl)
      · rw [if_neg (by simp [h3]), List.append_nil] at htk
        refine ⟨((k + 1 : Nat) : Int), by rw [← wrap64_id] <;> omega, ?_⟩; (conv => whnf)
        exact lg_back (k + 1) (by omega) (by (try dsimp only); omega) (weak_of (all_cons (eq_loc rfl (by rw [htk])) (all_cons rfl (all_cons rfl (all_cons rfl (all_cons rfl (all_cons rfl (all_cons rfl (all_cons rfl all_nil)))))))) (all_cons (eq_row rfl (by rw [htk])) (all_cons rfl all_nil)) rfl rfl)
    · have : k = D.files.length := by omega
      subst this
      (refine ⟨((i + 1 : Nat) : Int), by rw [← wrap64_id] <;> omega, ?_⟩; conv => whnf)
      have hfin : accI cleanD 0 (x.drives.take (i + 1)) = A ++ ((D.files.take D.files.length).filter fun f => isTmp f.name).map fun f => rmStep i f.name := by rw [hts, List.take_length]; rfl
      exact lg_back (i + 1) (by omega) (by (try dsimp only); omega) (weak_of (all_cons (eq_loc rfl (by rw [hfin])) (all_cons rfl (all_cons rfl (all_cons rfl all_nil)))) (all_cons (eq_row rfl (by rw [hfin])) all_nil) rfl rfl)
  · have : i = x.drives.length := by omega
    subst this
    rw [List.take_length]
    exact ⟨close_row rfl rfl (by simp [cleanA]) (by simp [cleanA]), trivial⟩
theorem cleanSpec_c (x : DArray) (hx : x.ok) (hs : (x.drives.map fun d => d.files.length).sum ≤ 1000000) : Fun1 Try.prog 100 [.agg x.enc] (.one (.row true 5 ((cleanA x).map DStep.enc))) := by
  obtain ⟨hk, hm, hl, hd⟩ := hx
  refine fun1_of_vc tb_ok mix (fn := Try.f100) Try.func100 rfl (by kernel_rfl) (by kernel_rfl) (by simp [Try.f100]) (by show AV.nb (4 + 1) _ = true; exact nb_map (n := 4) (fun y => DStep.enc_nbn 4 y) _) ?_
  (conv => whnf)
  refine ⟨LG (fun i : Nat => i ≤ x.drives.length) (fun i => x.drives.length - i) (fun i => AS.of [(1, .one (.ptr 16 0)), (3, .one (.loc 112 0 (accI cleanD 0 (x.drives.take i)).length)), (4, .one (.lit (.int .i64 (i : Nat))))] [(16, .var x.enc), (112, .row true 5 ((accI cleanD 0 (x.drives.take i)).map DStep.enc))]), lg_init 0 (by omega) (weak_of (by repeat (first | refine all_cons (by first | rfl | exact eq_int rfl (by first | rfl | omega | (simp; done) | (simp; omega)) | exact eq_loc rfl (by first | rfl | omega | (simp; done) | (simp; omega)) | exact eq_bool rfl (by simp_all)) ?_ | exact all_nil)) (by repeat (first | refine all_cons (by first | rfl | exact eq_int rfl (by first | rfl | omega | (simp; done) | (simp; omega)) | exact eq_loc rfl (by first | rfl | omega | (simp; done) | (simp; omega)) | exact eq_bool rfl (by simp_all)) ?_ | exact all_nil)) rfl rfl), ?_⟩
  rintro σ k ⟨i, hi, rfl, rfl⟩
  refine ⟨_, Weak.refl _, ?_⟩
  (conv => whnf)
  (split <;> rename_i h <;> (try simp only [decide_eq_true_eq, decide_eq_false_iff_not, Bool.not_eq_true', Bool.not_eq_false', Bool.not_eq_true, Bool.not_eq_false, List.length_map] at h) <;> conv => whnf)
  · have hlt : i < x.drives.length := by omega
    have hts := accI_take_succ (f := cleanD) hlt
    have hle := accI_len_le (f := cleanD) (g := fun d => d.files.length) cleanD_len x.drives (i + 1)
    rw [hts, List.length_append] at hle
    have hdi := (hd _ (List.getElem_mem hlt)).1.1
    generalize hA : accI cleanD 0 (x.drives.take i) = A at *
    refine ⟨LG (fun k : Nat => k ≤ x.drives[i].files.length) (fun k => x.drives[i].files.length - k) (fun k => AS.of [(1, .one (.ptr 16 0)), (3, .one (.loc 112 0 (A ++ ((x.drives[i].files.take k).filter fun f => isTmp f.name).map fun f => rmStep i f.name).length)), (4, .one (.lit (.int .i64 (i : Nat)))), (5, .one (.lit (.int .i64 (k : Nat))))]
      [(16, .var x.enc), (112, .row true 5 ((A ++ ((x.drives[i].files.take k).filter fun f => isTmp f.name).map fun f => rmStep i f.name).map DStep.enc))]),
      lg_init 0 (by omega) (weak_of (all_cons rfl (all_cons (eq_loc rfl (by rw [← hA]; simp)) (all_cons rfl (all_cons rfl all_nil)))) (all_cons rfl (all_cons (eq_row rfl (by rw [← hA]; simp)) all_nil)) rfl rfl), ?_⟩
    rintro σ m ⟨k, hki, rfl, rfl⟩
    refine ⟨_, Weak.refl _, ?_⟩
    (conv => whnf)
    refine ⟨i, rfl, _, at_map hlt, ?_⟩; (conv => whnf)
    (split <;> rename_i h2 <;> (try simp only [decide_eq_true_eq, decide_eq_false_iff_not, Bool.not_eq_true', Bool.not_eq_false', Bool.not_eq_true, Bool.not_eq_false, List.length_map] at h2) <;> conv => whnf)
    · have hlk : k < x.drives[i].files.length := by omega
      have htk := filterMap_take_succ (p := fun f : DStored => isTmp f.name) (f := fun f => rmStep i f.name) hlk
      have hkl : (((x.drives[i].files.take k).filter fun f => isTmp f.name).map fun f => rmStep i f.name).length ≤ k := by
        rw [List.length_map]; exact Nat.le_trans (List.length_filter_le _ _) (by rw [List.length_take]; omega)
      refine ⟨i, rfl, _, at_map hlt, ?_⟩; (conv => whnf)
      refine ⟨k, rfl, _, at_map hlk, ?_⟩; (conv => whnf)
      refine ⟨_, _, l12Begins_c x.drives[i].files[k].name ⟨#[116, 45]⟩, (by repeat' (first | exact lends_nil | exact lend_dead | apply lends_cons | apply lend_agg | apply lend_one | exact all2_nil | apply all2_cons | exact la_lit rfl | exact la_int (by first | rfl | omega) | exact la_row rfl rfl | exact la_loc rfl rfl rfl (by first | rfl | simp [mkL_length]) (by first | rfl | simp) | exact la_nil rfl | apply la_fn rfl | exact lend_same rfl rfl | exact lend_bor rfl rfl)), ?_⟩; (conv => whnf)
      by_cases h3 : isTmp x.drives[i].files[k].name = true
      · rw [if_pos h3] at htk
        have hmk : (A ++ ((x.drives[i].files.take (k + 1)).filter fun f => isTmp f.name).map fun f => rmStep i f.name).map DStep.enc = (A ++ ((x.drives[i].files.take k).filter fun f => isTmp f.name).map fun f => rmStep i f.name).map DStep.enc ++ [(rmStep i x.drives[i].files[k].name).enc] := by rw [htk, ← List.append_assoc, List.map_append]; rfl
        (split <;> rename_i h4 <;> (try simp only [decide_eq_true_eq, decide_eq_false_iff_not, Bool.not_eq_true', Bool.not_eq_false', Bool.not_eq_true, Bool.not_eq_false, List.length_map] at h4) <;> conv => whnf)
        case h_2 => rw [show begins x.drives[i].files[k].name ⟨#[116, 45]⟩ = isTmp x.drives[i].files[k].name from rfl, h3] at h4; cases h4
        refine ⟨_, _, ⟨rfl, Nat.le_refl _, rfl, rfl⟩, ?_⟩; (conv => whnf)
        refine ⟨_, rfl, rfl, by simp, rfl, by simp [maxLen, chunk] at *; omega, by simp [chunk] at *; omega, ?_⟩; (conv => whnf)
        refine ⟨((k + 1 : Nat) : Int), by rw [← wrap64_id] <;> omega, ?_⟩; (conv => whnf)
        exact lg_back (k + 1) (by omega) (by (try dsimp only); omega) (weak_of (all_cons rfl (all_cons (eq_loc rfl (by rw [htk]; simp [chunk]; omega)) (all_cons rfl (all_cons rfl all_nil)))) (all_cons rfl (all_cons (eq_row rfl (by rw [hmk]; rfl)) all_nil)) rfl rfl)
      · rw [if_neg (by simp [h3]), List.append_nil] at htk
        (split <;> rename_i h4 <;> (try simp only [decide_eq_true_eq, decide_eq_false_iff_not, Bool.not_eq_true', Bool.not_eq_false', Bool.not_eq_true, Bool.not_eq_false, List.length_map] at h4) <;> conv => whnf)
        case h_1 => exact absurd h4 h3
        refine ⟨((k + 1 : Nat) : Int), by rw [← wrap64_id] <;> omega, ?_⟩; (conv => whnf)
        exact lg_back (k + 1) (by omega) (by (try dsimp only); omega) (weak_of (all_cons rfl (all_cons (eq_loc rfl (by rw [htk])) (all_cons rfl (all_cons rfl all_nil)))) (all_cons rfl (all_cons (eq_row rfl (by rw [htk])) all_nil)) rfl rfl)
    · have hkk : k = x.drives[i].files.length := by omega
      (refine ⟨((i + 1 : Nat) : Int), by rw [← wrap64_id] <;> omega, ?_⟩; conv => whnf)
      have hfin : accI cleanD 0 (x.drives.take (i + 1)) = A ++ ((x.drives[i].files.take k).filter fun f => isTmp f.name).map fun f => rmStep i f.name := by rw [hts, hkk, List.take_length]; rfl
      exact lg_back (i + 1) (by omega) (by (try dsimp only); omega) (weak_of (all_cons rfl (all_cons (eq_loc rfl (by rw [hfin])) (all_cons rfl all_nil))) (all_cons rfl (all_cons (eq_row rfl (by rw [hfin])) all_nil)) rfl rfl)
  · have : i = x.drives.length := by omega
    subst this
    rw [List.take_length]
    exact ⟨close_row rfl rfl (by simp [cleanA]) (by simp [cleanA]), trivial⟩
def cleanR (x : DArray) : List DStep := if arrayOk x = true then cleanA x else []
theorem clean_bounds (x : DArray) (h : arrayOk x = true) : (x.drives.map fun d => d.files.length).sum ≤ 840 := by
  obtain ⟨h1, h2, _⟩ := arrayOk_len h
  have := sum_le_mul (f := fun d : DDrive => d.files.length) (B := 60) (l := x.drives) fun d hd => driveOk_len (h2 d hd)
  omega
theorem cleanStepsSpec_c (x : DArray) (hx : x.ok) (hu : ∀ d ∈ x.drives, usedN d.files ≤ 1000000000000) : Fun1 Try.prog 23 [.agg x.enc] (.one (.row true 5 ((cleanR x).map DStep.enc))) := by
  refine fun1_of_vc tb_ok mix (fn := Try.f23) Try.func23 rfl (by kernel_rfl) (by kernel_rfl) (by simp [Try.f23]) (by show AV.nb (4 + 1) _ = true; exact nb_map (n := 4) (fun y => DStep.enc_nbn 4 y) _) ?_
  (conv => whnf)
  refine ⟨_, _, arraySpec_c x hx hu, (by repeat' (first | exact lends_nil | exact lend_dead | apply lends_cons | apply lend_agg | apply lend_one | exact all2_nil | apply all2_cons | exact la_lit rfl | exact la_int (by first | rfl | omega) | exact la_row rfl rfl | exact la_loc rfl rfl rfl (by first | rfl | simp [mkL_length]) (by first | rfl | simp) | exact la_nil rfl | apply la_fn rfl | exact lend_same rfl rfl | exact lend_bor rfl rfl)), ?_⟩; (conv => whnf)
  (split <;> rename_i h <;> (try simp only [decide_eq_true_eq, decide_eq_false_iff_not, Bool.not_eq_true', Bool.not_eq_false', Bool.not_eq_true, Bool.not_eq_false, List.length_map] at h) <;> conv => whnf)
  · exact ⟨close_row rfl rfl rfl (by simp [cleanR, h, chunk]), trivial⟩
  · have := clean_bounds x h
    refine ⟨_, _, cleanSpec_c x hx (by omega), (by repeat' (first | exact lends_nil | exact lend_dead | apply lends_cons | apply lend_agg | apply lend_one | exact all2_nil | apply all2_cons | exact la_lit rfl | exact la_int (by first | rfl | omega) | exact la_row rfl rfl | exact la_loc rfl rfl rfl (by first | rfl | simp [mkL_length]) (by first | rfl | simp) | exact la_nil rfl | apply la_fn rfl | exact lend_same rfl rfl | exact lend_bor rfl rfl)), ?_⟩; (conv => whnf)
    exact ⟨close_row rfl rfl rfl (by simp [cleanR, h]), trivial⟩
theorem cleanStepsImpl_c (x : DArray) (hx : x.ok) (hu : ∀ d ∈ x.drives, usedN d.files ≤ 1000000000000) : Fun1 Try.prog 25 [.agg x.enc] (.one (.row true 5 ((cleanR x).map DStep.enc))) := by
  refine fun1_of_vc tb_ok mix (fn := Try.f25) Try.func25 rfl (by kernel_rfl) (by kernel_rfl) (by simp [Try.f25]) (by show AV.nb (4 + 1) _ = true; exact nb_map (n := 4) (fun y => DStep.enc_nbn 4 y) _) ?_
  (conv => whnf)
  refine ⟨_, _, arrayImpl_c x hx hu, (by repeat' (first | exact lends_nil | exact lend_dead | apply lends_cons | apply lend_agg | apply lend_one | exact all2_nil | apply all2_cons | exact la_lit rfl | exact la_int (by first | rfl | omega) | exact la_row rfl rfl | exact la_loc rfl rfl rfl (by first | rfl | simp [mkL_length]) (by first | rfl | simp) | exact la_nil rfl | apply la_fn rfl | exact lend_same rfl rfl | exact lend_bor rfl rfl)), ?_⟩; (conv => whnf)
  (split <;> rename_i h <;> (try simp only [decide_eq_true_eq, decide_eq_false_iff_not, Bool.not_eq_true', Bool.not_eq_false', Bool.not_eq_true, Bool.not_eq_false, List.length_map] at h) <;> conv => whnf)
  · exact ⟨close_nil (by simp [cleanR, h]), trivial⟩
  · have := clean_bounds x h
    refine ⟨_, _, cleanImpl_c x hx (by omega), (by repeat' (first | exact lends_nil | exact lend_dead | apply lends_cons | apply lend_agg | apply lend_one | exact all2_nil | apply all2_cons | exact la_lit rfl | exact la_int (by first | rfl | omega) | exact la_row rfl rfl | exact la_loc rfl rfl rfl (by first | rfl | simp [mkL_length]) (by first | rfl | simp) | exact la_nil rfl | apply la_fn rfl | exact lend_same rfl rfl | exact lend_bor rfl rfl)), ?_⟩; (conv => whnf)
    exact ⟨close_row rfl rfl rfl (by simp [cleanR, h]), trivial⟩
end Go.Proofs.Ytlijeincckbdaaa
