/- Contracts: right drives of the program; finding a file. -/
import Derived.Test.YtlijeincckbdaaaF1
namespace Go.Proofs.Ytlijeincckbdaaa
open Go.RowKit
set_option linter.unusedSimpArgs false
set_option linter.unusedVariables false
set_option maxRecDepth 100000
theorem driveImpl_c (x : DDrive) (hx : x.ok) (hu : usedN x.files ≤ 1000000000000) : Fun1 Try.prog 39 [.agg x.enc] (.one (.lit (.bool (driveOk x)))) := by
  have hx' := hx
  obtain ⟨⟨hl, hf⟩, hr⟩ := hx
  refine fun1_of_vc tb_ok mix (fn := Try.f39) Try.func39 rfl (by kernel_rfl) (by kernel_rfl) (by simp [Try.f39]) (by rfl) ?_
  (conv => whnf)
  (split <;> rename_i h0 <;> (try simp only [decide_eq_true_eq, decide_eq_false_iff_not, Bool.not_eq_true', Bool.not_eq_false', Bool.not_eq_true, Bool.not_eq_false, List.length_map] at h0) <;> conv => whnf)
  · exact ⟨close_bool (by simp [driveOk]; omega), trivial⟩
  refine ⟨_, _, within_c x.room 0 100000, (by repeat' (first | exact lends_nil | exact lend_dead | apply lends_cons | apply lend_agg | apply lend_one | exact all2_nil | apply all2_cons | exact la_lit rfl | exact la_int (by first | rfl | omega) | exact la_row rfl rfl | exact la_loc rfl rfl rfl (by first | rfl | simp [mkL_length]) (by first | rfl | simp) | exact la_nil rfl | apply la_fn rfl | exact lend_same rfl rfl | exact lend_bor rfl rfl)), ?_⟩; (conv => whnf)
  (split <;> rename_i h9 <;> (try simp only [decide_eq_true_eq, decide_eq_false_iff_not, Bool.not_eq_true', Bool.not_eq_false', Bool.not_eq_true, Bool.not_eq_false, List.length_map] at h9) <;> conv => whnf)
  · exact ⟨close_bool (by simp at h9; simp [driveOk]; omega), trivial⟩
  simp only [Bool.and_eq_true, decide_eq_true_eq] at h9
  refine ⟨LG (fun i : Nat => i ≤ x.files.length ∧ ∀ j, j < i → fOk x.files j = true) (fun i => x.files.length - i) (fun i => AS.of [(1, .one (.ptr 16 0)), (16, .one (.row false 3 (x.files.map DStored.enc))), (17, .one (.lit (.int .i64 (x.files.length : Nat)))), (18, .one (.lit (.int .i64 (i : Nat))))] [(16, .var x.enc)]), lg_init 0 ⟨by omega, fun j h => by omega⟩ (weak_of (by repeat (first | refine all_cons (by first | rfl | exact eq_int rfl (by first | rfl | omega | (simp; done) | (simp; omega)) | exact eq_loc rfl (by first | rfl | omega | (simp; done) | (simp; omega)) | exact eq_bool rfl (by simp_all)) ?_ | exact all_nil)) (by repeat (first | refine all_cons (by first | rfl | exact eq_int rfl (by first | rfl | omega | (simp; done) | (simp; omega)) | exact eq_loc rfl (by first | rfl | omega | (simp; done) | (simp; omega)) | exact eq_bool rfl (by simp_all)) ?_ | exact all_nil)) rfl rfl), ?_⟩
  rintro σ k ⟨i, ⟨hi, hc⟩, rfl, rfl⟩
  refine ⟨_, Weak.refl _, ?_⟩
  (conv => whnf)
  (split <;> rename_i h <;> (try simp only [decide_eq_true_eq, decide_eq_false_iff_not, Bool.not_eq_true', Bool.not_eq_false', Bool.not_eq_true, Bool.not_eq_false, List.length_map] at h) <;> conv => whnf)
  · have hlt : i < x.files.length := by omega
    have hfi := hf _ (List.getElem_mem hlt)
    unfold DStored.ok inI at hfi
    refine ⟨i, rfl, _, at_map hlt, ?_⟩; (conv => whnf)
    refine ⟨_, _, nameImpl_c x.files[i].name hfi.1, (by repeat' (first | exact lends_nil | exact lend_dead | apply lends_cons | apply lend_agg | apply lend_one | exact all2_nil | apply all2_cons | exact la_lit rfl | exact la_int (by first | rfl | omega) | exact la_row rfl rfl | exact la_loc rfl rfl rfl (by first | rfl | simp [mkL_length]) (by first | rfl | simp) | exact la_nil rfl | apply la_fn rfl | exact lend_same rfl rfl | exact lend_bor rfl rfl)), ?_⟩; (conv => whnf)
    (split <;> rename_i h1 <;> (try simp only [decide_eq_true_eq, decide_eq_false_iff_not, Bool.not_eq_true', Bool.not_eq_false', Bool.not_eq_true, Bool.not_eq_false, List.length_map] at h1) <;> conv => whnf)
    · exact ⟨close_bool (driveOk_ff hlt (fOk_f hlt (by rw [h1]; simp))), trivial⟩
    have hbad : ∀ {r : Bool}, r = false → ¬ (x.files[i].text.size ≤ 20000 ∧ 0 ≤ x.files[i].synced ∧ x.files[i].synced ≤ (x.files[i].text.size : Int)) → driveOk x = r := fun hr h => by rw [hr]; exact driveOk_ff hlt (fOk_f hlt fun q => h q.2.2)
    have hnext : (i = 0 ∨ sless (x.files[i - 1]'(by omega)).name x.files[i].name = true) → x.files[i].text.size ≤ 20000 ∧ 0 ≤ x.files[i].synced ∧ x.files[i].synced ≤ (x.files[i].text.size : Int) → ∀ j, j < i + 1 → fOk x.files j = true := fun h h' j hj => by
      by_cases e : j = i
      · subst e; exact fOk_t hlt ⟨h1, h, h'⟩
      · exact hc j (by omega)
    (split <;> rename_i h2 <;> (try simp only [decide_eq_true_eq, decide_eq_false_iff_not, Bool.not_eq_true', Bool.not_eq_false', Bool.not_eq_true, Bool.not_eq_false, List.length_map] at h2) <;> conv => whnf)
    · refine ⟨((i - 1 : Nat) : Int), by rw [← wrap64_id] <;> omega, ?_⟩; (conv => whnf)
      refine ⟨i - 1, rfl, _, at_map (by omega), ?_⟩; (conv => whnf)
      (split <;> rename_i h3 <;> (try simp only [decide_eq_true_eq, decide_eq_false_iff_not, Bool.not_eq_true', Bool.not_eq_false', Bool.not_eq_true, Bool.not_eq_false, List.length_map] at h3) <;> conv => whnf)
      · exact ⟨close_bool (driveOk_ff hlt (fOk_f hlt (by rintro ⟨q1, q2, q3⟩; rcases q2 with q2 | q2; omega; simp_all))), trivial⟩
      refine ⟨_, _, isLong_c x.files[i].text, (by repeat' (first | exact lends_nil | exact lend_dead | apply lends_cons | apply lend_agg | apply lend_one | exact all2_nil | apply all2_cons | exact la_lit rfl | exact la_int (by first | rfl | omega) | exact la_row rfl rfl | exact la_loc rfl rfl rfl (by first | rfl | simp [mkL_length]) (by first | rfl | simp) | exact la_nil rfl | apply la_fn rfl | exact lend_same rfl rfl | exact lend_bor rfl rfl)), ?_⟩; (conv => whnf)
      (split <;> rename_i h4 <;> (try simp only [decide_eq_true_eq, decide_eq_false_iff_not, Bool.not_eq_true', Bool.not_eq_false', Bool.not_eq_true, Bool.not_eq_false, List.length_map] at h4) <;> conv => whnf)
      · exact ⟨close_bool (hbad rfl (by omega)), trivial⟩
      refine ⟨_, _, long_c x.files[i].text, (by repeat' (first | exact lends_nil | exact lend_dead | apply lends_cons | apply lend_agg | apply lend_one | exact all2_nil | apply all2_cons | exact la_lit rfl | exact la_int (by first | rfl | omega) | exact la_row rfl rfl | exact la_loc rfl rfl rfl (by first | rfl | simp [mkL_length]) (by first | rfl | simp) | exact la_nil rfl | apply la_fn rfl | exact lend_same rfl rfl | exact lend_bor rfl rfl)), ?_⟩; (conv => whnf)
      refine ⟨_, _, within_c x.files[i].synced 0 x.files[i].text.size, (by repeat' (first | exact lends_nil | exact lend_dead | apply lends_cons | apply lend_agg | apply lend_one | exact all2_nil | apply all2_cons | exact la_lit rfl | exact la_int (by first | rfl | omega) | exact la_row rfl rfl | exact la_loc rfl rfl rfl (by first | rfl | simp [mkL_length]) (by first | rfl | simp) | exact la_nil rfl | apply la_fn rfl | exact lend_same rfl rfl | exact lend_bor rfl rfl)), ?_⟩; (conv => whnf)
      (split <;> rename_i h5 <;> (try simp only [decide_eq_true_eq, decide_eq_false_iff_not, Bool.not_eq_true', Bool.not_eq_false', Bool.not_eq_true, Bool.not_eq_false, List.length_map] at h5) <;> conv => whnf)
      · exact ⟨close_bool (hbad rfl (by simp at h5; omega)), trivial⟩
      simp only [Bool.and_eq_true, decide_eq_true_eq] at h5
      (refine ⟨((i + 1 : Nat) : Int), by rw [← wrap64_id] <;> omega, ?_⟩; conv => whnf)
      exact lg_back (i + 1) ⟨by omega, hnext (.inr h3) (by omega)⟩ (by (try dsimp only); omega) (weak_of (by repeat (first | refine all_cons (by first | rfl | exact eq_int rfl (by first | rfl | omega | (simp; done) | (simp; omega)) | exact eq_loc rfl (by first | rfl | omega | (simp; done) | (simp; omega)) | exact eq_bool rfl (by simp_all)) ?_ | exact all_nil)) (by repeat (first | refine all_cons (by first | rfl | exact eq_int rfl (by first | rfl | omega | (simp; done) | (simp; omega)) | exact eq_loc rfl (by first | rfl | omega | (simp; done) | (simp; omega)) | exact eq_bool rfl (by simp_all)) ?_ | exact all_nil)) rfl rfl)
    · refine ⟨_, _, isLong_c x.files[i].text, (by repeat' (first | exact lends_nil | exact lend_dead | apply lends_cons | apply lend_agg | apply lend_one | exact all2_nil | apply all2_cons | exact la_lit rfl | exact la_int (by first | rfl | omega) | exact la_row rfl rfl | exact la_loc rfl rfl rfl (by first | rfl | simp [mkL_length]) (by first | rfl | simp) | exact la_nil rfl | apply la_fn rfl | exact lend_same rfl rfl | exact lend_bor rfl rfl)), ?_⟩; (conv => whnf)
      (split <;> rename_i h4 <;> (try simp only [decide_eq_true_eq, decide_eq_false_iff_not, Bool.not_eq_true', Bool.not_eq_false', Bool.not_eq_true, Bool.not_eq_false, List.length_map] at h4) <;> conv => whnf)
      · exact ⟨close_bool (hbad rfl (by omega)), trivial⟩
      refine ⟨_, _, long_c x.files[i].text, (by repeat' (first | exact lends_nil | exact lend_dead | apply lends_cons | apply lend_agg | apply lend_one | exact all2_nil | apply all2_cons | exact la_lit rfl | exact la_int (by first | rfl | omega) | exact la_row rfl rfl | exact la_loc rfl rfl rfl (by first | rfl | simp [mkL_length]) (by first | rfl | simp) | exact la_nil rfl | apply la_fn rfl | exact lend_same rfl rfl | exact lend_bor rfl rfl)), ?_⟩; (conv => whnf)
      refine ⟨_, _, within_c x.files[i].synced 0 x.files[i].text.size, (by repeat' (first | exact lends_nil | exact lend_dead | apply lends_cons | apply lend_agg | apply lend_one | exact all2_nil | apply all2_cons | exact la_lit rfl | exact la_int (by first | rfl | omega) | exact la_row rfl rfl | exact la_loc rfl rfl rfl (by first | rfl | simp [mkL_length]) (by first | rfl | simp) | exact la_nil rfl | apply la_fn rfl | exact lend_same rfl rfl | exact lend_bor rfl rfl)), ?_⟩; (conv => whnf)
      (split <;> rename_i h5 <;> (try simp only [decide_eq_true_eq, decide_eq_false_iff_not, Bool.not_eq_true', Bool.not_eq_false', Bool.not_eq_true, Bool.not_eq_false, List.length_map] at h5) <;> conv => whnf)
      · exact ⟨close_bool (hbad rfl (by simp at h5; omega)), trivial⟩
      simp only [Bool.and_eq_true, decide_eq_true_eq] at h5
      (refine ⟨((i + 1 : Nat) : Int), by rw [← wrap64_id] <;> omega, ?_⟩; conv => whnf)
      exact lg_back (i + 1) ⟨by omega, hnext (.inl (by omega)) (by omega)⟩ (by (try dsimp only); omega) (weak_of (by repeat (first | refine all_cons (by first | rfl | exact eq_int rfl (by first | rfl | omega | (simp; done) | (simp; omega)) | exact eq_loc rfl (by first | rfl | omega | (simp; done) | (simp; omega)) | exact eq_bool rfl (by simp_all)) ?_ | exact all_nil)) (by repeat (first | refine all_cons (by first | rfl | exact eq_int rfl (by first | rfl | omega | (simp; done) | (simp; omega)) | exact eq_loc rfl (by first | rfl | omega | (simp; done) | (simp; omega)) | exact eq_bool rfl (by simp_all)) ?_ | exact all_nil)) rfl rfl)
  · have : i = x.files.length := by omega
    subst this
    refine ⟨_, _, usedImpl_c x hx' hu, (by repeat' (first | exact lends_nil | exact lend_dead | apply lends_cons | apply lend_agg | apply lend_one | exact all2_nil | apply all2_cons | exact la_lit rfl | exact la_int (by first | rfl | omega) | exact la_row rfl rfl | exact la_loc rfl rfl rfl (by first | rfl | simp [mkL_length]) (by first | rfl | simp) | exact la_nil rfl | apply la_fn rfl | exact lend_same rfl rfl | exact lend_bor rfl rfl)), ?_⟩; (conv => whnf)
    exact ⟨close_bool (driveOk_end (by omega) (by omega) (by omega) hc), trivial⟩
theorem find1_c (f : DStored) (name : ByteArray) : Fun1 Try.prog 174 [.agg f.enc, .one (.lit (.string name))] (.one (.lit (.int .i64 (cmpB f.name name)))) := by
  refine fun1_of_vc tb_ok mix (fn := Try.f174) Try.func174 rfl (by kernel_rfl) (by kernel_rfl) (by simp [Try.f174]) (by rfl) ?_
  (conv => whnf)
  refine ⟨_, _, compare_c f.name name, (by repeat' (first | exact lends_nil | exact lend_dead | apply lends_cons | apply lend_agg | apply lend_one | exact all2_nil | apply all2_cons | exact la_lit rfl | exact la_int (by first | rfl | omega) | exact la_row rfl rfl | exact la_loc rfl rfl rfl (by first | rfl | simp [mkL_length]) (by first | rfl | simp) | exact la_nil rfl | apply la_fn rfl | exact lend_same rfl rfl | exact lend_bor rfl rfl)), ?_⟩; (conv => whnf)
  exact (by repeat' (first | exact trivial | exact close_int rfl | exact close_str rfl | exact close_bool rfl | exact close_int (by omega) | exact close_row rfl rfl (by first | rfl | simp) (by first | rfl | simp) | exact close_nil (by first | rfl | simp) | exact rfl | apply And.intro | apply closeTs_cons rfl))
theorem bsearch_c (d : DDrive) (hd : driveOk d = true) (name : ByteArray) (hl : d.files.length ≤ 4294967296) : Fun1 Try.prog 173 [.one (.row true 3 (d.files.map DStored.enc)), .one (.lit (.string name)), .one (.fn 174 [])]
    (.tup [(false, [.lit (.int .i64 (findP d.files name : Nat))]), (false, [.lit (.bool (hasN d.files name))])]) := by
  refine fun1_of_vc tb_ok mix (fn := Try.f173) Try.func173 rfl (by kernel_rfl) (by kernel_rfl) (by simp [Try.f173]) (by rfl) ?_
  (conv => whnf)
  refine ⟨LG (fun p : Nat × Nat => p.1 ≤ p.2 ∧ p.2 ≤ d.files.length ∧ (∀ t (h : t < d.files.length), t < p.1 → cmpB d.files[t].name name < 0) ∧ ∀ t (h : t < d.files.length), p.2 ≤ t → 0 ≤ cmpB d.files[t].name name) (fun p => p.2 - p.1)
    (fun p => AS.of [(0, .one (.row true 3 (d.files.map DStored.enc))), (1, .one (.lit (.string name))), (2, .one (.fn 174 [])), (8, .one (.lit (.int .i64 (d.files.length : Nat)))), (9, .one (.lit (.int .i64 (p.1 : Nat)))), (10, .one (.lit (.int .i64 (p.2 : Nat))))] []),
    lg_init (0, d.files.length) ⟨by simp, by simp, fun t h h' => by simp at h', fun t h h' => by simp at h'; omega⟩ (weak_of (by repeat (first | refine all_cons (by first | rfl | exact eq_int rfl (by first | rfl | omega | (simp; done) | (simp; omega)) | exact eq_loc rfl (by first | rfl | omega | (simp; done) | (simp; omega)) | exact eq_bool rfl (by simp_all)) ?_ | exact all_nil)) (by repeat (first | refine all_cons (by first | rfl | exact eq_int rfl (by first | rfl | omega | (simp; done) | (simp; omega)) | exact eq_loc rfl (by first | rfl | omega | (simp; done) | (simp; omega)) | exact eq_bool rfl (by simp_all)) ?_ | exact all_nil)) rfl rfl), ?_⟩
  rintro σ k ⟨⟨i, j⟩, ⟨hij, hj, hlo, hhi⟩, rfl, rfl⟩
  simp only at hij hj hlo hhi
  refine ⟨_, Weak.refl _, ?_⟩
  (conv => whnf)
  (split <;> rename_i h <;> (try simp only [decide_eq_true_eq, decide_eq_false_iff_not, Bool.not_eq_true', Bool.not_eq_false', Bool.not_eq_true, Bool.not_eq_false, List.length_map] at h) <;> conv => whnf)
  · have hlt : i < j := by omega
    refine ⟨((i + j : Nat) : Int), by rw [← wrap64_id] <;> omega, ?_⟩; (conv => whnf)
    refine ⟨((i + j : Nat) : Int), wrap_id (by simp [IntKind.min, IntKind.signed]; omega) (by simp [IntKind.max, IntKind.signed, IntKind.bits]; omega), ?_⟩; (conv => whnf)
    refine ⟨by decide, (((i + j) / 2 : Nat) : Int), by simp [IntKind.bits, Int.fdiv_eq_ediv], ?_⟩; (conv => whnf)
    refine ⟨(((i + j) / 2 : Nat) : Int), by rw [← wrap64_id] <;> omega, ?_⟩; (conv => whnf)
    have hm : (i + j) / 2 < d.files.length := by omega
    refine ⟨(i + j) / 2, rfl, _, at_map hm, ?_⟩; (conv => whnf)
    refine ⟨_, _, find1_c d.files[(i + j) / 2] name, (by repeat' (first | exact lends_nil | exact lend_dead | apply lends_cons | apply lend_agg | apply lend_one | exact all2_nil | apply all2_cons | exact la_lit rfl | exact la_int (by first | rfl | omega) | exact la_row rfl rfl | exact la_loc rfl rfl rfl (by first | rfl | simp [mkL_length]) (by first | rfl | simp) | exact la_nil rfl | apply la_fn rfl | exact lend_same rfl rfl | exact lend_bor rfl rfl)), ?_⟩; (conv => whnf)
    have hmono : ∀ t (h : t < d.files.length), t < (i + j) / 2 → cmpB d.files[(i + j) / 2].name name ≤ 0 → cmpB d.files[t].name name < 0 := fun t h ht hle => by
      have h1 := sorted_of hd _ t ht hm
      rcases Int.lt_or_eq_of_le hle with h2 | h2
      · exact (cmpB_neg _ _).2 (bLt_trans h1 ((cmpB_neg _ _).1 h2))
      · rw [← (cmpB_zero _ _).1 h2]; exact (cmpB_neg _ _).2 h1
    have hmono2 : ∀ t (h : t < d.files.length), (i + j) / 2 < t → 0 ≤ cmpB d.files[(i + j) / 2].name name → 0 ≤ cmpB d.files[t].name name := fun t h ht hge => by
      have h1 := sorted_of hd t _ ht h
      by_cases hneg : cmpB d.files[t].name name < 0
      · have := (cmpB_neg _ _).2 (bLt_trans h1 ((cmpB_neg _ _).1 hneg)); omega
      · omega
    (split <;> rename_i h2 <;> (try simp only [decide_eq_true_eq, decide_eq_false_iff_not, Bool.not_eq_true', Bool.not_eq_false', Bool.not_eq_true, Bool.not_eq_false, List.length_map] at h2) <;> conv => whnf)
    · refine ⟨(((i + j) / 2 + 1 : Nat) : Int), by rw [← wrap64_id] <;> omega, ?_⟩; (conv => whnf)
      exact lg_back ((i + j) / 2 + 1, j) ⟨by simp; omega, hj, fun t h ht => by
        simp only at ht
        by_cases e : t = (i + j) / 2
        · subst e; exact h2
        · exact hmono t h (by omega) (by omega), hhi⟩ (by simp only; omega) (weak_of (by repeat (first | refine all_cons (by first | rfl | exact eq_int rfl (by first | rfl | omega | (simp; done) | (simp; omega)) | exact eq_loc rfl (by first | rfl | omega | (simp; done) | (simp; omega)) | exact eq_bool rfl (by simp_all)) ?_ | exact all_nil)) (by repeat (first | refine all_cons (by first | rfl | exact eq_int rfl (by first | rfl | omega | (simp; done) | (simp; omega)) | exact eq_loc rfl (by first | rfl | omega | (simp; done) | (simp; omega)) | exact eq_bool rfl (by simp_all)) ?_ | exact all_nil)) rfl rfl)
    · exact lg_back (i, (i + j) / 2) ⟨by simp; omega, by simp; omega, hlo, fun t h ht => by
        simp only at ht
        by_cases e : t = (i + j) / 2
        · subst e; omega
        · exact hmono2 t h (by omega) (by omega)⟩ (by simp only; omega) (weak_of (by repeat (first | refine all_cons (by first | rfl | exact eq_int rfl (by first | rfl | omega | (simp; done) | (simp; omega)) | exact eq_loc rfl (by first | rfl | omega | (simp; done) | (simp; omega)) | exact eq_bool rfl (by simp_all)) ?_ | exact all_nil)) (by repeat (first | refine all_cons (by first | rfl | exact eq_int rfl (by first | rfl | omega | (simp; done) | (simp; omega)) | exact eq_loc rfl (by first | rfl | omega | (simp; done) | (simp; omega)) | exact eq_bool rfl (by simp_all)) ?_ | exact all_nil)) rfl rfl)
  · have : i = j := by omega
    subst this
    have hP := findP_cut hj hlo hhi
    (split <;> rename_i h2 <;> (try simp only [decide_eq_true_eq, decide_eq_false_iff_not, Bool.not_eq_true', Bool.not_eq_false', Bool.not_eq_true, Bool.not_eq_false, List.length_map] at h2) <;> conv => whnf)
    · have hlt : i < d.files.length := by omega
      refine ⟨i, rfl, _, at_map hlt, ?_⟩; (conv => whnf)
      refine ⟨_, _, find1_c d.files[i] name, (by repeat' (first | exact lends_nil | exact lend_dead | apply lends_cons | apply lend_agg | apply lend_one | exact all2_nil | apply all2_cons | exact la_lit rfl | exact la_int (by first | rfl | omega) | exact la_row rfl rfl | exact la_loc rfl rfl rfl (by first | rfl | simp [mkL_length]) (by first | rfl | simp) | exact la_nil rfl | apply la_fn rfl | exact lend_same rfl rfl | exact lend_bor rfl rfl)), ?_⟩; (conv => whnf)
      rw [hP, hasN_cut hd hlt hlo hhi]
      exact (by repeat' (first | exact trivial | exact close_int rfl | exact close_str rfl | exact close_bool rfl | exact close_int (by omega) | exact close_row rfl rfl (by first | rfl | simp) (by first | rfl | simp) | exact close_nil (by first | rfl | simp) | exact rfl | apply And.intro | apply closeTs_cons rfl))
    · have e : i = d.files.length := by omega
      rw [hP, hasN_none (fun t h => hlo t h (by omega))]
      exact (by repeat' (first | exact trivial | exact close_int rfl | exact close_str rfl | exact close_bool rfl | exact close_int (by omega) | exact close_row rfl rfl (by first | rfl | simp) (by first | rfl | simp) | exact close_nil (by first | rfl | simp) | exact rfl | apply And.intro | apply closeTs_cons rfl))
theorem find_c (d : DDrive) (hd : driveOk d = true) (name : ByteArray) (hl : d.files.length ≤ 4294967296) : Fun1 Try.prog 92 [.agg d.enc, .one (.lit (.string name))]
    (.tup [(false, [.lit (.int .i64 (findP d.files name : Nat))]), (false, [.lit (.bool (hasN d.files name))])]) := by
  refine fun1_of_vc tb_ok mix (fn := Try.f92) Try.func92 rfl (by kernel_rfl) (by kernel_rfl) (by simp [Try.f92]) (by rfl) ?_
  (conv => whnf)
  refine ⟨_, _, bsearch_c d hd name hl, (by repeat' (first | exact lends_nil | exact lend_dead | apply lends_cons | apply lend_agg | apply lend_one | exact all2_nil | apply all2_cons | exact la_lit rfl | exact la_int (by first | rfl | omega) | exact la_row rfl rfl | exact la_loc rfl rfl rfl (by first | rfl | simp [mkL_length]) (by first | rfl | simp) | exact la_nil rfl | apply la_fn rfl | exact lend_same rfl rfl | exact lend_bor rfl rfl)), ?_⟩; (conv => whnf)
  exact (by repeat' (first | exact trivial | exact close_int rfl | exact close_str rfl | exact close_bool rfl | exact close_int (by omega) | exact close_row rfl rfl (by first | rfl | simp) (by first | rfl | simp) | exact close_nil (by first | rfl | simp) | exact rfl | apply And.intro | apply closeTs_cons rfl))
theorem l08Find_c (d : DDrive) (name : ByteArray) (hl : d.files.length ≤ 4294967296) : Fun1 Try.prog 86 [.agg d.enc, .one (.lit (.string name))] (.one (.lit (.int .i64 (findI d.files name)))) := by
  refine fun1_of_vc tb_ok mix (fn := Try.f86) Try.func86 rfl (by kernel_rfl) (by kernel_rfl) (by simp [Try.f86]) (by rfl) ?_
  (conv => whnf)
  refine ⟨LG (fun i : Nat => i ≤ d.files.length ∧ ∀ t (h : t < d.files.length), t < i → d.files[t].name ≠ name) (fun i => d.files.length - i) (fun i => AS.of [(1, .one (.lit (.string name))), (2, .one (.ptr 32 0)), (5, .one (.lit (.int .i64 (i : Nat))))] [(32, .var d.enc)]), lg_init 0 ⟨by omega, fun t h h' => by omega⟩ (weak_of (by repeat (first | refine all_cons (by first | rfl | exact eq_int rfl (by first | rfl | omega | (simp; done) | (simp; omega)) | exact eq_loc rfl (by first | rfl | omega | (simp; done) | (simp; omega)) | exact eq_bool rfl (by simp_all)) ?_ | exact all_nil)) (by repeat (first | refine all_cons (by first | rfl | exact eq_int rfl (by first | rfl | omega | (simp; done) | (simp; omega)) | exact eq_loc rfl (by first | rfl | omega | (simp; done) | (simp; omega)) | exact eq_bool rfl (by simp_all)) ?_ | exact all_nil)) rfl rfl), ?_⟩
  rintro σ k ⟨i, ⟨hi, hc⟩, rfl, rfl⟩
  refine ⟨_, Weak.refl _, ?_⟩
  (conv => whnf)
  (split <;> rename_i h <;> (try simp only [decide_eq_true_eq, decide_eq_false_iff_not, Bool.not_eq_true', Bool.not_eq_false', Bool.not_eq_true, Bool.not_eq_false, List.length_map] at h) <;> conv => whnf)
  · have hlt : i < d.files.length := by omega
    refine ⟨i, rfl, _, at_map hlt, ?_⟩; (conv => whnf)
    (split <;> rename_i h2 <;> (try simp only [decide_eq_true_eq, decide_eq_false_iff_not, Bool.not_eq_true', Bool.not_eq_false', Bool.not_eq_true, Bool.not_eq_false, List.length_map] at h2) <;> conv => whnf)
    · exact ⟨close_int (findI_at hlt hc h2), trivial⟩
    · (refine ⟨((i + 1 : Nat) : Int), by rw [← wrap64_id] <;> omega, ?_⟩; conv => whnf)
      exact lg_back (i + 1) ⟨by omega, fun t h ht => by
        by_cases e : t = i
        · subst e; exact h2
        · exact hc t h (by omega)⟩ (by (try dsimp only); omega) (weak_of (by repeat (first | refine all_cons (by first | rfl | exact eq_int rfl (by first | rfl | omega | (simp; done) | (simp; omega)) | exact eq_loc rfl (by first | rfl | omega | (simp; done) | (simp; omega)) | exact eq_bool rfl (by simp_all)) ?_ | exact all_nil)) (by repeat (first | refine all_cons (by first | rfl | exact eq_int rfl (by first | rfl | omega | (simp; done) | (simp; omega)) | exact eq_loc rfl (by first | rfl | omega | (simp; done) | (simp; omega)) | exact eq_bool rfl (by simp_all)) ?_ | exact all_nil)) rfl rfl)
  · exact ⟨close_int (findI_none (fun t h => hc t h (by omega))).1, trivial⟩
end Go.Proofs.Ytlijeincckbdaaa
