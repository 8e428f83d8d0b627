/- Contracts: ranges, lengths, names. -/
import Derived.Test.YtlijeincckbdaaaP1
import Derived.Test.YtlijeincckbdaaaTb
namespace Go.Proofs.Ytlijeincckbdaaa
open Go.RowKit
set_option linter.unusedSimpArgs false
set_option linter.unusedVariables false
set_option maxRecDepth 100000
theorem within_c (a b c : Int) : Fun1 Try.prog 93 [.one (.lit (.int .i64 a)), .one (.lit (.int .i64 b)), .one (.lit (.int .i64 c))] (.one (.lit (.bool (decide (b ≤ a) && decide (a ≤ c))))) := by
  refine fun1_of_vc tb_ok mix (fn := Try.f93) Try.func93 rfl (by kernel_rfl) (by kernel_rfl) (by simp [Try.f93]) (by rfl) ?_
  (conv => whnf)
  (repeat' (split <;> rename_i hb <;> (try simp only [decide_eq_true_eq, decide_eq_false_iff_not, Bool.not_eq_true', Bool.not_eq_false', Bool.not_eq_true, Bool.not_eq_false, List.length_map] at hb) <;> conv => whnf))
  all_goals exact ⟨close_bool (by simp [*]), trivial⟩
theorem long_c (s : ByteArray) : Fun1 Try.prog 94 [.one (.lit (.string s))] (.one (.lit (.int .i64 (s.size : Nat)))) := by
  refine fun1_of_vc tb_ok mix (fn := Try.f94) Try.func94 rfl (by kernel_rfl) (by kernel_rfl) (by simp [Try.f94]) (by rfl) ?_
  (conv => whnf)
  exact (by repeat' (first | exact trivial | exact close_int rfl | exact close_str rfl | exact close_bool rfl | exact close_int (by omega) | exact close_row rfl rfl (by first | rfl | simp) (by first | rfl | simp) | exact close_nil (by first | rfl | simp) | exact rfl | apply And.intro | apply closeTs_cons rfl))
theorem isLong_c (s : ByteArray) : Fun1 Try.prog 89 [.one (.lit (.string s))] (.one (.lit (.bool (decide (20000 < (s.size : Int)))))) := by
  refine fun1_of_vc tb_ok mix (fn := Try.f89) Try.func89 rfl (by kernel_rfl) (by kernel_rfl) (by simp [Try.f89]) (by rfl) ?_
  (conv => whnf)
  exact (by repeat' (first | exact trivial | exact close_int rfl | exact close_str rfl | exact close_bool rfl | exact close_int (by omega) | exact close_row rfl rfl (by first | rfl | simp) (by first | rfl | simp) | exact close_nil (by first | rfl | simp) | exact rfl | apply And.intro | apply closeTs_cons rfl))
theorem isByte_c (a : Int) : Fun1 Try.prog 91 [.one (.lit (.int .i64 a))] (.one (.lit (.bool (decide (0 ≤ a) && decide (a ≤ 255))))) := by
  refine fun1_of_vc tb_ok mix (fn := Try.f91) Try.func91 rfl (by kernel_rfl) (by kernel_rfl) (by simp [Try.f91]) (by rfl) ?_
  (conv => whnf)
  refine ⟨_, _, within_c a 0 255, (by repeat' (first | exact lends_nil | exact lend_dead | apply lends_cons | apply lend_agg | apply lend_one | exact all2_nil | apply all2_cons | exact la_lit rfl | exact la_int (by first | rfl | omega) | exact la_row rfl rfl | exact la_loc rfl rfl rfl (by first | rfl | simp [mkL_length]) (by first | rfl | simp) | exact la_nil rfl | apply la_fn rfl | exact lend_same rfl rfl | exact lend_bor rfl rfl)), ?_⟩; (conv => whnf)
  exact (by repeat' (first | exact trivial | exact close_int rfl | exact close_str rfl | exact close_bool rfl | exact close_int (by omega) | exact close_row rfl rfl (by first | rfl | simp) (by first | rfl | simp) | exact close_nil (by first | rfl | simp) | exact rfl | apply And.intro | apply closeTs_cons rfl))
theorem l02Byte_c (a : Int) : Fun1 Try.prog 87 [.one (.lit (.int .i64 a))] (.one (.lit (.bool (decide (0 ≤ a) && decide (a ≤ 255))))) := by
  refine fun1_of_vc tb_ok mix (fn := Try.f87) Try.func87 rfl (by kernel_rfl) (by kernel_rfl) (by simp [Try.f87]) (by rfl) ?_
  (conv => whnf)
  (repeat' (split <;> rename_i hb <;> (try simp only [decide_eq_true_eq, decide_eq_false_iff_not, Bool.not_eq_true', Bool.not_eq_false', Bool.not_eq_true, Bool.not_eq_false, List.length_map] at hb) <;> conv => whnf))
  all_goals exact ⟨close_bool (by simp [*]), trivial⟩
theorem nameSpec_c (s : ByteArray) (hs : s.size ≤ 4294967296) : Fun1 Try.prog 119 [.one (.lit (.string s))] (.one (.lit (.bool (nameOk s 80)))) := by
  refine fun1_of_vc tb_ok mix (fn := Try.f119) Try.func119 rfl (by kernel_rfl) (by kernel_rfl) (by simp [Try.f119]) (by rfl) ?_
  (conv => whnf)
  (repeat' (split <;> rename_i hb <;> (try simp only [decide_eq_true_eq, decide_eq_false_iff_not, Bool.not_eq_true', Bool.not_eq_false', Bool.not_eq_true, Bool.not_eq_false, List.length_map] at hb) <;> conv => whnf))
  · exact ⟨close_bool (by simp [nameOk]; omega), trivial⟩
  · exact ⟨close_bool (by simp [nameOk]; omega), trivial⟩
  rename_i hb1 _ hb2
  refine ⟨LG (fun i : Nat => i ≤ s.size ∧ ∀ j, j < i → nmAt s j = true) (fun i => s.size - i) (fun i => AS.of [(0, .one (.lit (.string s))), (3, .one (.lit (.int .i64 (i : Nat))))] []), lg_init 0 ⟨by omega, fun j h => by omega⟩ (weak_of (by repeat (first | refine all_cons (by first | rfl | exact eq_int rfl (by first | rfl | omega | (simp; done) | (simp; omega)) | exact eq_loc rfl (by first | rfl | omega | (simp; done) | (simp; omega)) | exact eq_bool rfl (by simp_all)) ?_ | exact all_nil)) (by repeat (first | refine all_cons (by first | rfl | exact eq_int rfl (by first | rfl | omega | (simp; done) | (simp; omega)) | exact eq_loc rfl (by first | rfl | omega | (simp; done) | (simp; omega)) | exact eq_bool rfl (by simp_all)) ?_ | exact all_nil)) rfl rfl), ?_⟩
  rintro σ k ⟨i, ⟨hi, hc⟩, rfl, rfl⟩
  refine ⟨_, Weak.refl _, ?_⟩
  (conv => whnf)
  (split <;> rename_i h <;> (try simp only [decide_eq_true_eq, decide_eq_false_iff_not, Bool.not_eq_true', Bool.not_eq_false', Bool.not_eq_true, Bool.not_eq_false, List.length_map] at h) <;> conv => whnf)
  · refine ⟨i, rfl, by omega, ?_⟩; (conv => whnf)
    (repeat' (split <;> rename_i hb <;> (try simp only [decide_eq_true_eq, decide_eq_false_iff_not, Bool.not_eq_true', Bool.not_eq_false', Bool.not_eq_true, Bool.not_eq_false, List.length_map] at hb) <;> conv => whnf))
    all_goals first
      | (refine ⟨close_bool ?_, trivial⟩; have hn : nmAt s i = false := nmAt_f (by omega); simp only [nameOk, range_all_false (p := nmAt s) (n := s.size) (j := i) (by omega) hn, Bool.false_and]; done)
      | ((refine ⟨((i + 1 : Nat) : Int), by rw [← wrap64_id] <;> omega, ?_⟩; conv => whnf); exact lg_back (i + 1) ⟨by omega, fun j hj => by
          by_cases e : j = i
          · subst e; exact nmAt_t (by omega)
          · exact hc j (by omega)⟩ (by (try dsimp only); omega) (weak_of (by repeat (first | refine all_cons (by first | rfl | exact eq_int rfl (by first | rfl | omega | (simp; done) | (simp; omega)) | exact eq_loc rfl (by first | rfl | omega | (simp; done) | (simp; omega)) | exact eq_bool rfl (by simp_all)) ?_ | exact all_nil)) (by repeat (first | refine all_cons (by first | rfl | exact eq_int rfl (by first | rfl | omega | (simp; done) | (simp; omega)) | exact eq_loc rfl (by first | rfl | omega | (simp; done) | (simp; omega)) | exact eq_bool rfl (by simp_all)) ?_ | exact all_nil)) rfl rfl))
  · have : i = s.size := by omega
    subst this
    exact ⟨close_bool (by simp [nameOk, range_all_true hc]; omega), trivial⟩
theorem isName_c (s : ByteArray) (most : Int) (hs : s.size ≤ 4294967296) : Fun1 Try.prog 185 [.one (.lit (.string s)), .one (.lit (.int .i64 most))] (.one (.lit (.bool (nameOk s most)))) := by
  refine fun1_of_vc tb_ok mix (fn := Try.f185) Try.func185 rfl (by kernel_rfl) (by kernel_rfl) (by simp [Try.f185]) (by rfl) ?_
  (conv => whnf)
  refine ⟨LG (fun i : Nat => i ≤ s.size ∧ ∀ j, j < i → nmAt s j = true) (fun i => s.size - i) (fun i => AS.of [(0, .one (.lit (.string s))), (1, .one (.lit (.int .i64 most))), (8, .one (.lit (.int .i64 (s.size : Nat)))), (9, .one (.lit (.int .i64 (i : Nat))))] []), lg_init 0 ⟨by omega, fun j h => by omega⟩ (weak_of (by repeat (first | refine all_cons (by first | rfl | exact eq_int rfl (by first | rfl | omega | (simp; done) | (simp; omega)) | exact eq_loc rfl (by first | rfl | omega | (simp; done) | (simp; omega)) | exact eq_bool rfl (by simp_all)) ?_ | exact all_nil)) (by repeat (first | refine all_cons (by first | rfl | exact eq_int rfl (by first | rfl | omega | (simp; done) | (simp; omega)) | exact eq_loc rfl (by first | rfl | omega | (simp; done) | (simp; omega)) | exact eq_bool rfl (by simp_all)) ?_ | exact all_nil)) rfl rfl), ?_⟩
  rintro σ k ⟨i, ⟨hi, hc⟩, rfl, rfl⟩
  refine ⟨_, Weak.refl _, ?_⟩
  (conv => whnf)
  (split <;> rename_i h <;> (try simp only [decide_eq_true_eq, decide_eq_false_iff_not, Bool.not_eq_true', Bool.not_eq_false', Bool.not_eq_true, Bool.not_eq_false, List.length_map] at h) <;> conv => whnf)
  · refine ⟨i, rfl, by omega, ?_⟩; (conv => whnf)
    (repeat' (split <;> rename_i hb <;> (try simp only [decide_eq_true_eq, decide_eq_false_iff_not, Bool.not_eq_true', Bool.not_eq_false', Bool.not_eq_true, Bool.not_eq_false, List.length_map] at hb) <;> conv => whnf))
    all_goals first
      | (refine ⟨close_bool ?_, trivial⟩; have hn : nmAt s i = false := nmAt_f (by omega); simp only [nameOk, range_all_false (p := nmAt s) (n := s.size) (j := i) (by omega) hn, Bool.false_and]; done)
      | ((refine ⟨((i + 1 : Nat) : Int), by rw [← wrap64_id] <;> omega, ?_⟩; conv => whnf); exact lg_back (i + 1) ⟨by omega, fun j hj => by
          by_cases e : j = i
          · subst e; exact nmAt_t (by omega)
          · exact hc j (by omega)⟩ (by (try dsimp only); omega) (weak_of (by repeat (first | refine all_cons (by first | rfl | exact eq_int rfl (by first | rfl | omega | (simp; done) | (simp; omega)) | exact eq_loc rfl (by first | rfl | omega | (simp; done) | (simp; omega)) | exact eq_bool rfl (by simp_all)) ?_ | exact all_nil)) (by repeat (first | refine all_cons (by first | rfl | exact eq_int rfl (by first | rfl | omega | (simp; done) | (simp; omega)) | exact eq_loc rfl (by first | rfl | omega | (simp; done) | (simp; omega)) | exact eq_bool rfl (by simp_all)) ?_ | exact all_nil)) rfl rfl))
  · have : i = s.size := by omega
    subst this
    refine ⟨_, _, long_c s, (by repeat' (first | exact lends_nil | exact lend_dead | apply lends_cons | apply lend_agg | apply lend_one | exact all2_nil | apply all2_cons | exact la_lit rfl | exact la_int (by first | rfl | omega) | exact la_row rfl rfl | exact la_loc rfl rfl rfl (by first | rfl | simp [mkL_length]) (by first | rfl | simp) | exact la_nil rfl | apply la_fn rfl | exact lend_same rfl rfl | exact lend_bor rfl rfl)), ?_⟩; (conv => whnf)
    refine ⟨_, _, within_c s.size 1 most, (by repeat' (first | exact lends_nil | exact lend_dead | apply lends_cons | apply lend_agg | apply lend_one | exact all2_nil | apply all2_cons | exact la_lit rfl | exact la_int (by first | rfl | omega) | exact la_row rfl rfl | exact la_loc rfl rfl rfl (by first | rfl | simp [mkL_length]) (by first | rfl | simp) | exact la_nil rfl | apply la_fn rfl | exact lend_same rfl rfl | exact lend_bor rfl rfl)), ?_⟩; (conv => whnf)
    exact ⟨close_bool (by simp [nameOk, range_all_true hc]), trivial⟩
theorem nameImpl_c (s : ByteArray) (hs : s.size ≤ 4294967296) : Fun1 Try.prog 127 [.one (.lit (.string s))] (.one (.lit (.bool (nameOk s 80)))) := by
  refine fun1_of_vc tb_ok mix (fn := Try.f127) Try.func127 rfl (by kernel_rfl) (by kernel_rfl) (by simp [Try.f127]) (by rfl) ?_
  (conv => whnf)
  refine ⟨_, _, isName_c s 80 hs, (by repeat' (first | exact lends_nil | exact lend_dead | apply lends_cons | apply lend_agg | apply lend_one | exact all2_nil | apply all2_cons | exact la_lit rfl | exact la_int (by first | rfl | omega) | exact la_row rfl rfl | exact la_loc rfl rfl rfl (by first | rfl | simp [mkL_length]) (by first | rfl | simp) | exact la_nil rfl | apply la_fn rfl | exact lend_same rfl rfl | exact lend_bor rfl rfl)), ?_⟩; (conv => whnf)
  exact (by repeat' (first | exact trivial | exact close_int rfl | exact close_str rfl | exact close_bool rfl | exact close_int (by omega) | exact close_row rfl rfl (by first | rfl | simp) (by first | rfl | simp) | exact close_nil (by first | rfl | simp) | exact rfl | apply And.intro | apply closeTs_cons rfl))
end Go.Proofs.Ytlijeincckbdaaa
