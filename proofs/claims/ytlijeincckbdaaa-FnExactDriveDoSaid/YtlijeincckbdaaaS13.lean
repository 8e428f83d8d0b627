/- Contracts: right ops; files put into a drive and taken out of it. -/
import Derived.Test.YtlijeincckbdaaaS4
import Derived.Test.YtlijeincckbdaaaI2
import Derived.Test.YtlijeincckbdaaaB7
namespace Go.Proofs.Ytlijeincckbdaaa
open Go.RowKit
set_option linter.unusedSimpArgs false
set_option linter.unusedVariables false
set_option maxRecDepth 100000
set_option maxHeartbeats 4000000
def noB (s : ByteArray) : Bool := decide (s = ⟨#[]⟩)
def opOk (o : DOp) : Bool := nameOk o.name 80 && (if o.kind = 1 then noB o.to && decide (o.text.size ≤ 20000) else if o.kind = 2 ∨ o.kind = 4 then noB o.to && noB o.text else if o.kind = 3 then nameOk o.to 80 && noB o.text else false)
theorem noB_t {s : ByteArray} (h : s = ⟨#[]⟩) : noB s = true := by simp only [noB, h, decide_true]
theorem noB_f {s : ByteArray} (h : ¬ s = ⟨#[]⟩) : noB s = false := by simp only [noB, h, decide_false]
theorem op1 {o : DOp} (h : nameOk o.name 80 = true) (h1 : o.kind = 1) : opOk o = (noB o.to && decide (o.text.size ≤ 20000)) := by unfold opOk; rw [h, if_pos h1, Bool.true_and]
theorem op24 {o : DOp} (h : nameOk o.name 80 = true) (h1 : o.kind = 2 ∨ o.kind = 4) : opOk o = (noB o.to && noB o.text) := by unfold opOk; rw [h, if_neg (by omega), if_pos h1, Bool.true_and]
theorem op3 {o : DOp} (h : nameOk o.name 80 = true) (h1 : o.kind = 3) : opOk o = (nameOk o.to 80 && noB o.text) := by unfold opOk; rw [h, if_neg (by omega), if_neg (by omega), if_pos h1, Bool.true_and]
theorem op0 {o : DOp} (h1 : ¬ o.kind = 1) (h2 : ¬ o.kind = 2) (h3 : ¬ o.kind = 3) (h4 : ¬ o.kind = 4) : opOk o = false := by unfold opOk; rw [if_neg h1, if_neg (by omega), if_neg h3, Bool.and_false]
theorem le_not (a : Nat) : decide (a ≤ 20000) = !decide (20000 < (a : Int)) := by
  by_cases q : a ≤ 20000
  · rw [decide_eq_true q, decide_eq_false (by omega)]; rfl
  · rw [decide_eq_false q, decide_eq_true (by omega)]; rfl
theorem le_int (a : Nat) : decide (a ≤ 20000) = decide ((a : Int) ≤ 20000) := by
  by_cases q : a ≤ 20000
  · rw [decide_eq_true q, decide_eq_true (by omega)]
  · rw [decide_eq_false q, decide_eq_false (by omega)]
theorem opImpl_c (o : DOp) (ho : o.ok) : Fun1 Try.prog 115 [.agg o.enc] (.one (.lit (.bool (opOk o)))) := by
  obtain ⟨hk, hn, ht, hx⟩ := ho
  refine fun1_of_vc tb_ok mix (fn := Try.f115) Try.func115 rfl (by kernel_rfl) (by kernel_rfl) (by simp [Try.f115]) (by rfl) ?_
  (conv => whnf)
  refine ⟨_, _, nameImpl_c o.name hn, (by repeat' (first | exact lends_nil | exact lend_dead | apply lends_cons | apply lend_agg | apply lend_one | exact all2_nil | apply all2_cons | exact la_lit rfl | exact la_int (by first | rfl | omega) | exact la_row rfl rfl | exact la_loc rfl rfl rfl (by first | rfl | simp [mkL_length]) (by first | rfl | simp) | exact la_nil rfl | apply la_fn rfl | exact lend_same rfl rfl | exact lend_bor rfl rfl)), ?_⟩; (conv => whnf)
  (split <;> rename_i h <;> (try simp only [decide_eq_true_eq, decide_eq_false_iff_not, Bool.not_eq_true', Bool.not_eq_false', Bool.not_eq_true, Bool.not_eq_false, List.length_map] at h) <;> conv => whnf)
  · exact ⟨close_bool (by simp [opOk, h]), trivial⟩
  (split <;> rename_i h1 <;> (try simp only [decide_eq_true_eq, decide_eq_false_iff_not, Bool.not_eq_true', Bool.not_eq_false', Bool.not_eq_true, Bool.not_eq_false, List.length_map] at h1) <;> conv => whnf)
  · (split <;> rename_i h2 <;> (try simp only [decide_eq_true_eq, decide_eq_false_iff_not, Bool.not_eq_true', Bool.not_eq_false', Bool.not_eq_true, Bool.not_eq_false, List.length_map] at h2) <;> conv => whnf)
    · refine ⟨_, _, isLong_c o.text, (by repeat' (first | exact lends_nil | exact lend_dead | apply lends_cons | apply lend_agg | apply lend_one | exact all2_nil | apply all2_cons | exact la_lit rfl | exact la_int (by first | rfl | omega) | exact la_row rfl rfl | exact la_loc rfl rfl rfl (by first | rfl | simp [mkL_length]) (by first | rfl | simp) | exact la_nil rfl | apply la_fn rfl | exact lend_same rfl rfl | exact lend_bor rfl rfl)), ?_⟩; (conv => whnf)
      exact ⟨close_bool (by rw [op1 h h1, noB_t h2, le_not]; rfl), trivial⟩
    · exact ⟨close_bool (by rw [op1 h h1, noB_f h2]; rfl), trivial⟩
  (split <;> rename_i h2 <;> (try simp only [decide_eq_true_eq, decide_eq_false_iff_not, Bool.not_eq_true', Bool.not_eq_false', Bool.not_eq_true, Bool.not_eq_false, List.length_map] at h2) <;> conv => whnf)
  · (split <;> rename_i g2 <;> (try simp only [decide_eq_true_eq, decide_eq_false_iff_not, Bool.not_eq_true', Bool.not_eq_false', Bool.not_eq_true, Bool.not_eq_false, List.length_map] at g2) <;> conv => whnf)
    · (split <;> rename_i h3 <;> (try simp only [decide_eq_true_eq, decide_eq_false_iff_not, Bool.not_eq_true', Bool.not_eq_false', Bool.not_eq_true, Bool.not_eq_false, List.length_map] at h3) <;> conv => whnf)
      · exact ⟨close_bool (by rw [op24 h (.inl h2), noB_t h3]; rfl), trivial⟩
      · exact ⟨close_bool (by rw [op24 h (.inl h2), noB_f h3]; rfl), trivial⟩
    · exact absurd h2 g2
  (split <;> rename_i h3 <;> (try simp only [decide_eq_true_eq, decide_eq_false_iff_not, Bool.not_eq_true', Bool.not_eq_false', Bool.not_eq_true, Bool.not_eq_false, List.length_map] at h3) <;> conv => whnf)
  · (split <;> rename_i h4 <;> (try simp only [decide_eq_true_eq, decide_eq_false_iff_not, Bool.not_eq_true', Bool.not_eq_false', Bool.not_eq_true, Bool.not_eq_false, List.length_map] at h4) <;> conv => whnf)
    · exact ⟨close_bool (by rw [op24 h (.inr h3), noB_t h4]; rfl), trivial⟩
    · exact ⟨close_bool (by rw [op24 h (.inr h3), noB_f h4]; rfl), trivial⟩
  (split <;> rename_i h4 <;> (try simp only [decide_eq_true_eq, decide_eq_false_iff_not, Bool.not_eq_true', Bool.not_eq_false', Bool.not_eq_true, Bool.not_eq_false, List.length_map] at h4) <;> conv => whnf)
  · refine ⟨_, _, nameImpl_c o.to ht, (by repeat' (first | exact lends_nil | exact lend_dead | apply lends_cons | apply lend_agg | apply lend_one | exact all2_nil | apply all2_cons | exact la_lit rfl | exact la_int (by first | rfl | omega) | exact la_row rfl rfl | exact la_loc rfl rfl rfl (by first | rfl | simp [mkL_length]) (by first | rfl | simp) | exact la_nil rfl | apply la_fn rfl | exact lend_same rfl rfl | exact lend_bor rfl rfl)), ?_⟩; (conv => whnf)
    (split <;> rename_i h5 <;> (try simp only [decide_eq_true_eq, decide_eq_false_iff_not, Bool.not_eq_true', Bool.not_eq_false', Bool.not_eq_true, Bool.not_eq_false, List.length_map] at h5) <;> conv => whnf)
    · exact ⟨close_bool (by rw [op3 h h4, h5]; rfl), trivial⟩
    · exact ⟨close_bool (by rw [op3 h h4, h5]; rfl), trivial⟩
  exact ⟨close_bool (by rw [op0 h1 h2 h4 h3]), trivial⟩
theorem opSpec_c (o : DOp) (ho : o.ok) : Fun1 Try.prog 117 [.agg o.enc] (.one (.lit (.bool (opOk o)))) := by
  obtain ⟨hk, hn, ht, hx⟩ := ho
  refine fun1_of_vc tb_ok mix (fn := Try.f117) Try.func117 rfl (by kernel_rfl) (by kernel_rfl) (by simp [Try.f117]) (by rfl) ?_
  (conv => whnf)
  refine ⟨_, _, nameSpec_c o.name hn, (by repeat' (first | exact lends_nil | exact lend_dead | apply lends_cons | apply lend_agg | apply lend_one | exact all2_nil | apply all2_cons | exact la_lit rfl | exact la_int (by first | rfl | omega) | exact la_row rfl rfl | exact la_loc rfl rfl rfl (by first | rfl | simp [mkL_length]) (by first | rfl | simp) | exact la_nil rfl | apply la_fn rfl | exact lend_same rfl rfl | exact lend_bor rfl rfl)), ?_⟩; (conv => whnf)
  (split <;> rename_i h <;> (try simp only [decide_eq_true_eq, decide_eq_false_iff_not, Bool.not_eq_true', Bool.not_eq_false', Bool.not_eq_true, Bool.not_eq_false, List.length_map] at h) <;> conv => whnf)
  · exact ⟨close_bool (by simp [opOk, h]), trivial⟩
  (split <;> rename_i h1 <;> (try simp only [decide_eq_true_eq, decide_eq_false_iff_not, Bool.not_eq_true', Bool.not_eq_false', Bool.not_eq_true, Bool.not_eq_false, List.length_map] at h1) <;> conv => whnf)
  · (split <;> rename_i h2 <;> (try simp only [decide_eq_true_eq, decide_eq_false_iff_not, Bool.not_eq_true', Bool.not_eq_false', Bool.not_eq_true, Bool.not_eq_false, List.length_map] at h2) <;> conv => whnf)
    · exact ⟨close_bool (by rw [op1 h h1, noB_t h2, le_int]; rfl), trivial⟩
    · exact ⟨close_bool (by rw [op1 h h1, noB_f h2]; rfl), trivial⟩
  (split <;> rename_i h4 <;> (try simp only [decide_eq_true_eq, decide_eq_false_iff_not, Bool.not_eq_true', Bool.not_eq_false', Bool.not_eq_true, Bool.not_eq_false, List.length_map] at h4) <;> conv => whnf)
  · refine ⟨_, _, nameSpec_c o.to ht, (by repeat' (first | exact lends_nil | exact lend_dead | apply lends_cons | apply lend_agg | apply lend_one | exact all2_nil | apply all2_cons | exact la_lit rfl | exact la_int (by first | rfl | omega) | exact la_row rfl rfl | exact la_loc rfl rfl rfl (by first | rfl | simp [mkL_length]) (by first | rfl | simp) | exact la_nil rfl | apply la_fn rfl | exact lend_same rfl rfl | exact lend_bor rfl rfl)), ?_⟩; (conv => whnf)
    (split <;> rename_i h5 <;> (try simp only [decide_eq_true_eq, decide_eq_false_iff_not, Bool.not_eq_true', Bool.not_eq_false', Bool.not_eq_true, Bool.not_eq_false, List.length_map] at h5) <;> conv => whnf)
    · exact ⟨close_bool (by rw [op3 h h4, h5]; rfl), trivial⟩
    · exact ⟨close_bool (by rw [op3 h h4, h5]; rfl), trivial⟩
  (repeat' (split <;> rename_i hb <;> (try simp only [decide_eq_true_eq, decide_eq_false_iff_not, Bool.not_eq_true', Bool.not_eq_false', Bool.not_eq_true, Bool.not_eq_false, List.length_map] at hb) <;> conv => whnf))
  all_goals (refine ⟨close_bool ?_, trivial⟩)
  all_goals (first | (exfalso; omega) | exact op0 h1 (by omega) h4 (by omega) | (rw [op24 h (by omega)]; simp [noB, *]; done) | (rw [op0 h1 (by omega) h4 (by omega)]; simp [*]; done) | (exfalso; simp_all; done) | (trace_state; sorry))
end Go.Proofs.Ytlijeincckbdaaa
