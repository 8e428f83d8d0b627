/- Contracts: right drives. -/
import Derived.Test.YtlijeincckbdaaaS1
namespace Go.Proofs.Ytlijeincckbdaaa
open Go.RowKit
set_option linter.unusedSimpArgs false
set_option linter.unusedVariables false
set_option maxRecDepth 100000
theorem fOk_f {fs : List DStored} {i : Nat} (hi : i < fs.length) (h : ¬ (nameOk fs[i].name 80 = true ∧ (i = 0 ∨ sless (fs[i - 1]'(by omega)).name fs[i].name = true) ∧ fs[i].text.size ≤ 20000 ∧ 0 ≤ fs[i].synced ∧ fs[i].synced ≤ (fs[i].text.size : Int))) : fOk fs i = false := by
  rw [fOk_eq hi, Bool.eq_false_iff]; intro e; apply h
  simp only [Bool.and_eq_true, Bool.or_eq_true, decide_eq_true_eq, bLt] at e
  obtain ⟨⟨⟨⟨e1, e2⟩, e3⟩, e4⟩, e5⟩ := e
  exact ⟨e1, e2, e3, e4, e5⟩
theorem fOk_t {fs : List DStored} {i : Nat} (hi : i < fs.length) (h : nameOk fs[i].name 80 = true ∧ (i = 0 ∨ sless (fs[i - 1]'(by omega)).name fs[i].name = true) ∧ fs[i].text.size ≤ 20000 ∧ 0 ≤ fs[i].synced ∧ fs[i].synced ≤ (fs[i].text.size : Int)) : fOk fs i = true := by
  rw [fOk_eq hi]
  simp only [Bool.and_eq_true, Bool.or_eq_true, decide_eq_true_eq, bLt]
  exact ⟨⟨⟨⟨h.1, h.2.1⟩, h.2.2.1⟩, h.2.2.2.1⟩, h.2.2.2.2⟩
theorem driveOk_ff {d : DDrive} {i : Nat} (hi : i < d.files.length) (h : fOk d.files i = false) : driveOk d = false := by
  simp [driveOk, filesOk, range_all_false hi h]
theorem driveOk_end {d : DDrive} (h1 : d.files.length ≤ 60) (h2 : 0 ≤ d.room) (h3 : d.room ≤ 100000) (h4 : ∀ j, j < d.files.length → fOk d.files j = true) : driveOk d = decide ((usedN d.files : Int) ≤ d.room) := by
  simp [driveOk, filesOk, range_all_true h4, h1, h2, h3]
theorem usedImpl_c (x : DDrive) (hx : x.ok) (hu : usedN x.files ≤ 1000000000000) : Fun1 Try.prog 128 [.agg x.enc] (.one (.lit (.int .i64 (usedN x.files : Nat)))) := by
  obtain ⟨⟨hl, hf⟩, hr⟩ := hx
  refine fun1_of_vc tb_ok mix (fn := Try.f128) Try.func128 rfl (by kernel_rfl) (by kernel_rfl) (by simp [Try.f128]) (by rfl) ?_
  (conv => whnf)
  refine ⟨LG (fun i : Nat => i ≤ x.files.length) (fun i => x.files.length - i) (fun i => AS.of [(3, .one (.lit (.int .i64 (usedN (x.files.take i) : Nat)))), (7, .one (.row false 3 (x.files.map DStored.enc))), (8, .one (.lit (.int .i64 (x.files.length : Nat)))), (9, .one (.lit (.int .i64 (i : Nat))))] []), lg_init 0 (by omega) (weak_of (by repeat (first | refine all_cons (by first | rfl | exact eq_int rfl (by first | rfl | omega | (simp; done) | (simp; omega)) | exact eq_loc rfl (by first | rfl | omega | (simp; done) | (simp; omega)) | exact eq_bool rfl (by simp_all)) ?_ | exact all_nil)) (by repeat (first | refine all_cons (by first | rfl | exact eq_int rfl (by first | rfl | omega | (simp; done) | (simp; omega)) | exact eq_loc rfl (by first | rfl | omega | (simp; done) | (simp; omega)) | exact eq_bool rfl (by simp_all)) ?_ | exact all_nil)) rfl rfl), ?_⟩
  rintro σ k ⟨i, hi, rfl, rfl⟩
  refine ⟨_, Weak.refl _, ?_⟩
  (conv => whnf)
  (split <;> rename_i h <;> (try simp only [decide_eq_true_eq, decide_eq_false_iff_not, Bool.not_eq_true', Bool.not_eq_false', Bool.not_eq_true, Bool.not_eq_false, List.length_map] at h) <;> conv => whnf)
  · have hlt : i < x.files.length := by omega
    have h1 := usedN_take_succ hlt
    have h2 := usedN_take_le x.files (i + 1)
    refine ⟨i, rfl, _, at_map hlt, ?_⟩; (conv => whnf)
    refine ⟨_, _, long_c x.files[i].text, (by repeat' (first | exact lends_nil | exact lend_dead | apply lends_cons | apply lend_agg | apply lend_one | exact all2_nil | apply all2_cons | exact la_lit rfl | exact la_int (by first | rfl | omega) | exact la_row rfl rfl | exact la_loc rfl rfl rfl (by first | rfl | simp [mkL_length]) (by first | rfl | simp) | exact la_nil rfl | apply la_fn rfl | exact lend_same rfl rfl | exact lend_bor rfl rfl)), ?_⟩; (conv => whnf)
    refine ⟨((usedN (x.files.take (i + 1)) : Nat) : Int), by rw [← wrap64_id] <;> omega, ?_⟩; (conv => whnf)
    (refine ⟨((i + 1 : Nat) : Int), by rw [← wrap64_id] <;> omega, ?_⟩; conv => whnf)
    exact lg_back (i + 1) (by omega) (by (try dsimp only); omega) (weak_of (by repeat (first | refine all_cons (by first | rfl | exact eq_int rfl (by first | rfl | omega | (simp; done) | (simp; omega)) | exact eq_loc rfl (by first | rfl | omega | (simp; done) | (simp; omega)) | exact eq_bool rfl (by simp_all)) ?_ | exact all_nil)) (by repeat (first | refine all_cons (by first | rfl | exact eq_int rfl (by first | rfl | omega | (simp; done) | (simp; omega)) | exact eq_loc rfl (by first | rfl | omega | (simp; done) | (simp; omega)) | exact eq_bool rfl (by simp_all)) ?_ | exact all_nil)) rfl rfl)
  · have : i = x.files.length := by omega
    subst this
    exact ⟨close_int (by simp), trivial⟩
theorem usedSpec_c (x : DDrive) (hx : x.ok) (hu : usedN x.files ≤ 1000000000000) : Fun1 Try.prog 120 [.agg x.enc] (.one (.lit (.int .i64 (usedN x.files : Nat)))) := by
  obtain ⟨⟨hl, hf⟩, hr⟩ := hx
  refine fun1_of_vc tb_ok mix (fn := Try.f120) Try.func120 rfl (by kernel_rfl) (by kernel_rfl) (by simp [Try.f120]) (by rfl) ?_
  (conv => whnf)
  refine ⟨LG (fun i : Nat => i ≤ x.files.length) (fun i => x.files.length - i) (fun i => AS.of [(1, .one (.ptr 16 0)), (3, .one (.lit (.int .i64 (usedN (x.files.take i) : Nat)))), (4, .one (.lit (.int .i64 (i : Nat))))] [(16, .var x.enc)]), lg_init 0 (by omega) (weak_of (by repeat (first | refine all_cons (by first | rfl | exact eq_int rfl (by first | rfl | omega | (simp; done) | (simp; omega)) | exact eq_loc rfl (by first | rfl | omega | (simp; done) | (simp; omega)) | exact eq_bool rfl (by simp_all)) ?_ | exact all_nil)) (by repeat (first | refine all_cons (by first | rfl | exact eq_int rfl (by first | rfl | omega | (simp; done) | (simp; omega)) | exact eq_loc rfl (by first | rfl | omega | (simp; done) | (simp; omega)) | exact eq_bool rfl (by simp_all)) ?_ | exact all_nil)) rfl rfl), ?_⟩
  rintro σ k ⟨i, hi, rfl, rfl⟩
  refine ⟨_, Weak.refl _, ?_⟩
  (conv => whnf)
  (split <;> rename_i h <;> (try simp only [decide_eq_true_eq, decide_eq_false_iff_not, Bool.not_eq_true', Bool.not_eq_false', Bool.not_eq_true, Bool.not_eq_false, List.length_map] at h) <;> conv => whnf)
  · have hlt : i < x.files.length := by omega
    have h1 := usedN_take_succ hlt
    have h2 := usedN_take_le x.files (i + 1)
    refine ⟨i, rfl, _, at_map hlt, ?_⟩; (conv => whnf)
    refine ⟨((usedN (x.files.take (i + 1)) : Nat) : Int), by rw [← wrap64_id] <;> omega, ?_⟩; (conv => whnf)
    (refine ⟨((i + 1 : Nat) : Int), by rw [← wrap64_id] <;> omega, ?_⟩; conv => whnf)
    exact lg_back (i + 1) (by omega) (by (try dsimp only); omega) (weak_of (by repeat (first | refine all_cons (by first | rfl | exact eq_int rfl (by first | rfl | omega | (simp; done) | (simp; omega)) | exact eq_loc rfl (by first | rfl | omega | (simp; done) | (simp; omega)) | exact eq_bool rfl (by simp_all)) ?_ | exact all_nil)) (by repeat (first | refine all_cons (by first | rfl | exact eq_int rfl (by first | rfl | omega | (simp; done) | (simp; omega)) | exact eq_loc rfl (by first | rfl | omega | (simp; done) | (simp; omega)) | exact eq_bool rfl (by simp_all)) ?_ | exact all_nil)) rfl rfl)
  · have : i = x.files.length := by omega
    subst this
    exact ⟨close_int (by simp), trivial⟩
theorem driveSpec_c (x : DDrive) (hx : x.ok) (hu : usedN x.files ≤ 1000000000000) : Fun1 Try.prog 36 [.agg x.enc] (.one (.lit (.bool (driveOk x)))) := by
  have hx' := hx
  obtain ⟨⟨hl, hf⟩, hr⟩ := hx
  refine fun1_of_vc tb_ok mix (fn := Try.f36) Try.func36 rfl (by kernel_rfl) (by kernel_rfl) (by simp [Try.f36]) (by rfl) ?_
  (conv => whnf)
  (repeat' (split <;> rename_i hb <;> (try simp only [decide_eq_true_eq, decide_eq_false_iff_not, Bool.not_eq_true', Bool.not_eq_false', Bool.not_eq_true, Bool.not_eq_false, List.length_map] at hb) <;> conv => whnf))
  · exact ⟨close_bool (by simp [driveOk]; omega), trivial⟩
  · exact ⟨close_bool (by simp [driveOk]; omega), trivial⟩
  · exact ⟨close_bool (by simp [driveOk]; omega), trivial⟩
  refine ⟨LG (fun i : Nat => i ≤ x.files.length ∧ ∀ j, j < i → fOk x.files j = true) (fun i => x.files.length - i) (fun i => AS.of [(1, .one (.ptr 16 0)), (3, .one (.lit (.int .i64 (i : Nat))))] [(16, .var x.enc)]), lg_init 0 ⟨by omega, fun j h => by omega⟩ (weak_of (by repeat (first | refine all_cons (by first | rfl | exact eq_int rfl (by first | rfl | omega | (simp; done) | (simp; omega)) | exact eq_loc rfl (by first | rfl | omega | (simp; done) | (simp; omega)) | exact eq_bool rfl (by simp_all)) ?_ | exact all_nil)) (by repeat (first | refine all_cons (by first | rfl | exact eq_int rfl (by first | rfl | omega | (simp; done) | (simp; omega)) | exact eq_loc rfl (by first | rfl | omega | (simp; done) | (simp; omega)) | exact eq_bool rfl (by simp_all)) ?_ | exact all_nil)) rfl rfl), ?_⟩
  rintro σ k ⟨i, ⟨hi, hc⟩, rfl, rfl⟩
  refine ⟨_, Weak.refl _, ?_⟩
  (conv => whnf)
  (split <;> rename_i h <;> (try simp only [decide_eq_true_eq, decide_eq_false_iff_not, Bool.not_eq_true', Bool.not_eq_false', Bool.not_eq_true, Bool.not_eq_false, List.length_map] at h) <;> conv => whnf)
  · have hlt : i < x.files.length := by omega
    have hfi := hf _ (List.getElem_mem hlt)
    unfold DStored.ok inI at hfi
    refine ⟨i, rfl, _, at_map hlt, ?_⟩; (conv => whnf)
    refine ⟨_, _, nameSpec_c x.files[i].name hfi.1, (by repeat' (first | exact lends_nil | exact lend_dead | apply lends_cons | apply lend_agg | apply lend_one | exact all2_nil | apply all2_cons | exact la_lit rfl | exact la_int (by first | rfl | omega) | exact la_row rfl rfl | exact la_loc rfl rfl rfl (by first | rfl | simp [mkL_length]) (by first | rfl | simp) | exact la_nil rfl | apply la_fn rfl | exact lend_same rfl rfl | exact lend_bor rfl rfl)), ?_⟩; (conv => whnf)
    (split <;> rename_i h1 <;> (try simp only [decide_eq_true_eq, decide_eq_false_iff_not, Bool.not_eq_true', Bool.not_eq_false', Bool.not_eq_true, Bool.not_eq_false, List.length_map] at h1) <;> conv => whnf)
    · exact ⟨close_bool (driveOk_ff hlt (fOk_f hlt (by rw [h1]; simp))), trivial⟩
    (split <;> rename_i h2 <;> (try simp only [decide_eq_true_eq, decide_eq_false_iff_not, Bool.not_eq_true', Bool.not_eq_false', Bool.not_eq_true, Bool.not_eq_false, List.length_map] at h2) <;> conv => whnf)
    · refine ⟨((i - 1 : Nat) : Int), by rw [← wrap64_id] <;> omega, ?_⟩; (conv => whnf)
      refine ⟨i - 1, rfl, _, at_map (by omega), ?_⟩; (conv => whnf)
      (repeat' (split <;> rename_i hb <;> (try simp only [decide_eq_true_eq, decide_eq_false_iff_not, Bool.not_eq_true', Bool.not_eq_false', Bool.not_eq_true, Bool.not_eq_false, List.length_map] at hb) <;> conv => whnf))
      all_goals first
        | exact ⟨close_bool (driveOk_ff hlt (fOk_f hlt (by rintro ⟨q1, q2, q3, q4, q5⟩; first | omega | (rcases q2 with q2 | q2; omega; simp_all)))), trivial⟩
        | ((refine ⟨((i + 1 : Nat) : Int), by rw [← wrap64_id] <;> omega, ?_⟩; conv => whnf); exact lg_back (i + 1) ⟨by omega, fun j hj => by
            by_cases e : j = i
            · subst e; exact fOk_t hlt ⟨h1, by first | (left; omega) | (right; assumption), by omega, by omega, by omega⟩
            · exact hc j (by omega)⟩ (by (try dsimp only); omega) (weak_of (by repeat (first | refine all_cons (by first | rfl | exact eq_int rfl (by first | rfl | omega | (simp; done) | (simp; omega)) | exact eq_loc rfl (by first | rfl | omega | (simp; done) | (simp; omega)) | exact eq_bool rfl (by simp_all)) ?_ | exact all_nil)) (by repeat (first | refine all_cons (by first | rfl | exact eq_int rfl (by first | rfl | omega | (simp; done) | (simp; omega)) | exact eq_loc rfl (by first | rfl | omega | (simp; done) | (simp; omega)) | exact eq_bool rfl (by simp_all)) ?_ | exact all_nil)) rfl rfl))
    · (repeat' (split <;> rename_i hb <;> (try simp only [decide_eq_true_eq, decide_eq_false_iff_not, Bool.not_eq_true', Bool.not_eq_false', Bool.not_eq_true, Bool.not_eq_false, List.length_map] at hb) <;> conv => whnf))
      all_goals first
        | exact ⟨close_bool (driveOk_ff hlt (fOk_f hlt (by rintro ⟨q1, q2, q3, q4, q5⟩; omega))), trivial⟩
        | ((refine ⟨((i + 1 : Nat) : Int), by rw [← wrap64_id] <;> omega, ?_⟩; conv => whnf); exact lg_back (i + 1) ⟨by omega, fun j hj => by
            by_cases e : j = i
            · subst e; exact fOk_t hlt ⟨h1, by left; omega, by omega, by omega, by omega⟩
            · exact hc j (by omega)⟩ (by (try dsimp only); omega) (weak_of (by repeat (first | refine all_cons (by first | rfl | exact eq_int rfl (by first | rfl | omega | (simp; done) | (simp; omega)) | exact eq_loc rfl (by first | rfl | omega | (simp; done) | (simp; omega)) | exact eq_bool rfl (by simp_all)) ?_ | exact all_nil)) (by repeat (first | refine all_cons (by first | rfl | exact eq_int rfl (by first | rfl | omega | (simp; done) | (simp; omega)) | exact eq_loc rfl (by first | rfl | omega | (simp; done) | (simp; omega)) | exact eq_bool rfl (by simp_all)) ?_ | exact all_nil)) rfl rfl))
  · have : i = x.files.length := by omega
    subst this
    refine ⟨_, _, usedSpec_c x hx' hu, (by repeat' (first | exact lends_nil | exact lend_dead | apply lends_cons | apply lend_agg | apply lend_one | exact all2_nil | apply all2_cons | exact la_lit rfl | exact la_int (by first | rfl | omega) | exact la_row rfl rfl | exact la_loc rfl rfl rfl (by first | rfl | simp [mkL_length]) (by first | rfl | simp) | exact la_nil rfl | apply la_fn rfl | exact lend_same rfl rfl | exact lend_bor rfl rfl)), ?_⟩; (conv => whnf)
    exact ⟨close_bool (driveOk_end (by omega) (by omega) (by omega) hc), trivial⟩
end Go.Proofs.Ytlijeincckbdaaa
