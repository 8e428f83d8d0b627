/- Contracts: right arrays, and files that are being written. -/
import Derived.Test.YtlijeincckbdaaaQh
namespace Go.Proofs.Ytlijeincckbdaaa
open Go.RowKit
set_option linter.unusedSimpArgs false
set_option linter.unusedVariables false
set_option maxRecDepth 100000
set_option maxHeartbeats 4000000
def begins (s p : ByteArray) : Bool := decide (p.size ≤ s.size) && decide (s.extract 0 p.size = p)
theorem l12Begins_c (s p : ByteArray) : Fun1 Try.prog 178 [.one (.lit (.string s)), .one (.lit (.string p))] (.one (.lit (.bool (begins s p)))) := by
  refine fun1_of_vc tb_ok mix (fn := Try.f178) Try.func178 rfl (by kernel_rfl) (by kernel_rfl) (by simp [Try.f178]) (by rfl) ?_
  (conv => whnf)
  (split <;> rename_i h <;> (try simp only [decide_eq_true_eq, decide_eq_false_iff_not, Bool.not_eq_true', Bool.not_eq_false', Bool.not_eq_true, Bool.not_eq_false, List.length_map] at h) <;> conv => whnf)
  · refine ⟨by decide, by simp, by simp; omega, _, rfl, ?_⟩; (conv => whnf)
    exact ⟨close_bool (by simp [begins]; omega), trivial⟩
  · exact ⟨close_bool (by simp [begins]; omega), trivial⟩
theorem hasPrefix2_c (s p : ByteArray) : Fun1 Try.prog 218 [.one (.lit (.string s)), .one (.lit (.string p))] (.one (.lit (.bool (begins s p)))) := by
  refine fun1_of_vc tb_ok mix (fn := Try.f218) Try.func218 rfl (by kernel_rfl) (by kernel_rfl) (by simp [Try.f218]) (by rfl) ?_
  (conv => whnf)
  (split <;> rename_i h <;> (try simp only [decide_eq_true_eq, decide_eq_false_iff_not, Bool.not_eq_true', Bool.not_eq_false', Bool.not_eq_true, Bool.not_eq_false, List.length_map] at h) <;> conv => whnf)
  · refine ⟨by decide, by simp, by simp; omega, _, rfl, ?_⟩; (conv => whnf)
    exact ⟨close_bool (by simp [begins]; omega), trivial⟩
  · exact ⟨close_bool (by simp [begins]; omega), trivial⟩
theorem hasPrefix_c (s p : ByteArray) : Fun1 Try.prog 186 [.one (.lit (.string s)), .one (.lit (.string p))] (.one (.lit (.bool (begins s p)))) := by
  refine fun1_of_vc tb_ok mix (fn := Try.f186) Try.func186 rfl (by kernel_rfl) (by kernel_rfl) (by simp [Try.f186]) (by rfl) ?_
  (conv => whnf)
  refine ⟨_, _, hasPrefix2_c s p, (by repeat' (first | exact lends_nil | exact lend_dead | apply lends_cons | apply lend_agg | apply lend_one | exact all2_nil | apply all2_cons | exact la_lit rfl | exact la_int (by first | rfl | omega) | exact la_row rfl rfl | exact la_loc rfl rfl rfl (by first | rfl | simp [mkL_length]) (by first | rfl | simp) | exact la_nil rfl | apply la_fn rfl | exact lend_same rfl rfl | exact lend_bor rfl rfl)), ?_⟩; (conv => whnf)
  exact (by repeat' (first | exact trivial | exact close_int rfl | exact close_str rfl | exact close_bool rfl | exact close_int (by omega) | exact close_row rfl rfl (by first | rfl | simp) (by first | rfl | simp) | exact close_nil (by first | rfl | simp) | exact rfl | apply And.intro | apply closeTs_cons rfl))
theorem isTemp_c (s : ByteArray) : Fun1 Try.prog 183 [.one (.lit (.string s))] (.one (.lit (.bool (isTmp s)))) := by
  refine fun1_of_vc tb_ok mix (fn := Try.f183) Try.func183 rfl (by kernel_rfl) (by kernel_rfl) (by simp [Try.f183]) (by rfl) ?_
  (conv => whnf)
  refine ⟨_, _, hasPrefix_c s ⟨#[116, 45]⟩, (by repeat' (first | exact lends_nil | exact lend_dead | apply lends_cons | apply lend_agg | apply lend_one | exact all2_nil | apply all2_cons | exact la_lit rfl | exact la_int (by first | rfl | omega) | exact la_row rfl rfl | exact la_loc rfl rfl rfl (by first | rfl | simp [mkL_length]) (by first | rfl | simp) | exact la_nil rfl | apply la_fn rfl | exact lend_same rfl rfl | exact lend_bor rfl rfl)), ?_⟩; (conv => whnf)
  exact ⟨close_bool rfl, trivial⟩
theorem codeSpec_c (k m : Int) : Fun1 Try.prog 177 [.one (.lit (.int .i64 k)), .one (.lit (.int .i64 m))] (.one (.lit (.bool (codeOk k m)))) := by
  refine fun1_of_vc tb_ok mix (fn := Try.f177) Try.func177 rfl (by kernel_rfl) (by kernel_rfl) (by simp [Try.f177]) (by rfl) ?_
  (conv => whnf)
  (repeat' (split <;> rename_i hb <;> (try simp only [decide_eq_true_eq, decide_eq_false_iff_not, Bool.not_eq_true', Bool.not_eq_false', Bool.not_eq_true, Bool.not_eq_false, List.length_map] at hb) <;> conv => whnf))
  all_goals exact ⟨close_bool (by simp [codeOk, *]), trivial⟩
theorem codeImpl_c (k m : Int) : Fun1 Try.prog 179 [.one (.lit (.int .i64 k)), .one (.lit (.int .i64 m))] (.one (.lit (.bool (codeOk k m)))) := by
  refine fun1_of_vc tb_ok mix (fn := Try.f179) Try.func179 rfl (by kernel_rfl) (by kernel_rfl) (by simp [Try.f179]) (by rfl) ?_
  (conv => whnf)
  refine ⟨_, _, within_c k 1 8, (by repeat' (first | exact lends_nil | exact lend_dead | apply lends_cons | apply lend_agg | apply lend_one | exact all2_nil | apply all2_cons | exact la_lit rfl | exact la_int (by first | rfl | omega) | exact la_row rfl rfl | exact la_loc rfl rfl rfl (by first | rfl | simp [mkL_length]) (by first | rfl | simp) | exact la_nil rfl | apply la_fn rfl | exact lend_same rfl rfl | exact lend_bor rfl rfl)), ?_⟩; (conv => whnf)
  (split <;> rename_i h <;> (try simp only [decide_eq_true_eq, decide_eq_false_iff_not, Bool.not_eq_true', Bool.not_eq_false', Bool.not_eq_true, Bool.not_eq_false, List.length_map] at h) <;> conv => whnf)
  · refine ⟨_, _, within_c m 0 6, (by repeat' (first | exact lends_nil | exact lend_dead | apply lends_cons | apply lend_agg | apply lend_one | exact all2_nil | apply all2_cons | exact la_lit rfl | exact la_int (by first | rfl | omega) | exact la_row rfl rfl | exact la_loc rfl rfl rfl (by first | rfl | simp [mkL_length]) (by first | rfl | simp) | exact la_nil rfl | apply la_fn rfl | exact lend_same rfl rfl | exact lend_bor rfl rfl)), ?_⟩; (conv => whnf)
    exact ⟨close_bool (by simp at h; simp [codeOk, h]), trivial⟩
  · exact ⟨close_bool (by simp at h; simp [codeOk]; omega), trivial⟩
theorem arrayRight1_c (d : DDrive) (hx : d.ok) (hu : usedN d.files ≤ 1000000000000) : Fun1 Try.prog 181 [.agg d.enc] (.one (.lit (.bool (!driveOk d)))) := by
  refine fun1_of_vc tb_ok mix (fn := Try.f181) Try.func181 rfl (by kernel_rfl) (by kernel_rfl) (by simp [Try.f181]) (by rfl) ?_
  (conv => whnf)
  refine ⟨_, _, driveImpl_c d hx hu, (by repeat' (first | exact lends_nil | exact lend_dead | apply lends_cons | apply lend_agg | apply lend_one | exact all2_nil | apply all2_cons | exact la_lit rfl | exact la_int (by first | rfl | omega) | exact la_row rfl rfl | exact la_loc rfl rfl rfl (by first | rfl | simp [mkL_length]) (by first | rfl | simp) | exact la_nil rfl | apply la_fn rfl | exact lend_same rfl rfl | exact lend_bor rfl rfl)), ?_⟩; (conv => whnf)
  exact (by repeat' (first | exact trivial | exact close_int rfl | exact close_str rfl | exact close_bool rfl | exact close_int (by omega) | exact close_row rfl rfl (by first | rfl | simp) (by first | rfl | simp) | exact close_nil (by first | rfl | simp) | exact rfl | apply And.intro | apply closeTs_cons rfl))
theorem indexDrive_c (l : List DDrive) (g : FuncId) (p : DDrive → Bool) (hl : l.length ≤ 4294967296) (hg : ∀ d ∈ l, Fun1 Try.prog g [.agg d.enc] (.one (.lit (.bool (p d))))) :
    Fun1 Try.prog 217 [.one (.row true 2 (l.map DDrive.enc)), .one (.fn g [])] (.one (.lit (.int .i64 (match l.findIdx? p with | some i => (i : Int) | none => -1)))) := by
  refine fun1_of_vc tb_ok mix (fn := Try.f217) Try.func217 rfl (by kernel_rfl) (by kernel_rfl) (by simp [Try.f217]) (by rfl) ?_
  (conv => whnf)
  refine ⟨LG (fun i : Nat => i ≤ l.length ∧ ∀ j (h : j < l.length), j < i → p l[j] = false) (fun i => l.length - i) (fun i => AS.of [(0, .one (.row true 2 (l.map DDrive.enc))), (1, .one (.fn g [])), (7, .one (.lit (.int .i64 (l.length : Nat)))), (8, .one (.lit (.int .i64 (i : Nat))))] []), lg_init 0 ⟨by omega, fun j h h' => by omega⟩ (weak_of (by repeat (first | refine all_cons (by first | rfl | exact eq_int rfl (by first | rfl | omega | (simp; done) | (simp; omega)) | exact eq_loc rfl (by first | rfl | omega | (simp; done) | (simp; omega)) | exact eq_bool rfl (by simp_all)) ?_ | exact all_nil)) (by repeat (first | refine all_cons (by first | rfl | exact eq_int rfl (by first | rfl | omega | (simp; done) | (simp; omega)) | exact eq_loc rfl (by first | rfl | omega | (simp; done) | (simp; omega)) | exact eq_bool rfl (by simp_all)) ?_ | exact all_nil)) rfl rfl), ?_⟩
  rintro σ k ⟨i, ⟨hi, hc⟩, rfl, rfl⟩
  refine ⟨_, Weak.refl _, ?_⟩
  (conv => whnf)
  (split <;> rename_i h <;> (try simp only [decide_eq_true_eq, decide_eq_false_iff_not, Bool.not_eq_true', Bool.not_eq_false', Bool.not_eq_true, Bool.not_eq_false, List.length_map] at h) <;> conv => whnf)
  · have hlt : i < l.length := by omega
    refine ⟨i, rfl, _, at_map hlt, ?_⟩; (conv => whnf)
    refine ⟨_, _, hg l[i] (List.getElem_mem hlt), (by repeat' (first | exact lends_nil | exact lend_dead | apply lends_cons | apply lend_agg | apply lend_one | exact all2_nil | apply all2_cons | exact la_lit rfl | exact la_int (by first | rfl | omega) | exact la_row rfl rfl | exact la_loc rfl rfl rfl (by first | rfl | simp [mkL_length]) (by first | rfl | simp) | exact la_nil rfl | apply la_fn rfl | exact lend_same rfl rfl | exact lend_bor rfl rfl)), ?_⟩; (conv => whnf)
    (split <;> rename_i h2 <;> (try simp only [decide_eq_true_eq, decide_eq_false_iff_not, Bool.not_eq_true', Bool.not_eq_false', Bool.not_eq_true, Bool.not_eq_false, List.length_map] at h2) <;> conv => whnf)
    · have : l.findIdx? p = some i := by
        rw [List.findIdx?_eq_some_iff_getElem]
        exact ⟨hlt, h2, fun j hj => by have := hc j (by omega) hj; simp [this]⟩
      rw [this]
      exact (by repeat' (first | exact trivial | exact close_int rfl | exact close_str rfl | exact close_bool rfl | exact close_int (by omega) | exact close_row rfl rfl (by first | rfl | simp) (by first | rfl | simp) | exact close_nil (by first | rfl | simp) | exact rfl | apply And.intro | apply closeTs_cons rfl))
    · (refine ⟨((i + 1 : Nat) : Int), by rw [← wrap64_id] <;> omega, ?_⟩; conv => whnf)
      exact lg_back (i + 1) ⟨by omega, fun j hj hji => by
        by_cases e : j = i
        · subst e; exact h2
        · exact hc j hj (by omega)⟩ (by (try dsimp only); omega) (weak_of (by repeat (first | refine all_cons (by first | rfl | exact eq_int rfl (by first | rfl | omega | (simp; done) | (simp; omega)) | exact eq_loc rfl (by first | rfl | omega | (simp; done) | (simp; omega)) | exact eq_bool rfl (by simp_all)) ?_ | exact all_nil)) (by repeat (first | refine all_cons (by first | rfl | exact eq_int rfl (by first | rfl | omega | (simp; done) | (simp; omega)) | exact eq_loc rfl (by first | rfl | omega | (simp; done) | (simp; omega)) | exact eq_bool rfl (by simp_all)) ?_ | exact all_nil)) rfl rfl)
  · have : l.findIdx? p = none := by
      rw [List.findIdx?_eq_none_iff]
      intro x hx
      obtain ⟨j, hj, rfl⟩ := List.getElem_of_mem hx
      exact hc j hj (by omega)
    rw [this]
    exact (by repeat' (first | exact trivial | exact close_int rfl | exact close_str rfl | exact close_bool rfl | exact close_int (by omega) | exact close_row rfl rfl (by first | rfl | simp) (by first | rfl | simp) | exact close_nil (by first | rfl | simp) | exact rfl | apply And.intro | apply closeTs_cons rfl))
theorem containsDrive_c (l : List DDrive) (g : FuncId) (p : DDrive → Bool) (hl : l.length ≤ 4294967296) (hg : ∀ d ∈ l, Fun1 Try.prog g [.agg d.enc] (.one (.lit (.bool (p d))))) :
    Fun1 Try.prog 180 [.one (.row true 2 (l.map DDrive.enc)), .one (.fn g [])] (.one (.lit (.bool (l.any p)))) := by
  refine fun1_of_vc tb_ok mix (fn := Try.f180) Try.func180 rfl (by kernel_rfl) (by kernel_rfl) (by simp [Try.f180]) (by rfl) ?_
  (conv => whnf)
  refine ⟨_, _, indexDrive_c l g p hl hg, (by repeat' (first | exact lends_nil | exact lend_dead | apply lends_cons | apply lend_agg | apply lend_one | exact all2_nil | apply all2_cons | exact la_lit rfl | exact la_int (by first | rfl | omega) | exact la_row rfl rfl | exact la_loc rfl rfl rfl (by first | rfl | simp [mkL_length]) (by first | rfl | simp) | exact la_nil rfl | apply la_fn rfl | exact lend_same rfl rfl | exact lend_bor rfl rfl)), ?_⟩; (conv => whnf)
  cases hq : l.findIdx? p with
  | some i =>
    have : l.any p = true := by
      rw [List.findIdx?_eq_some_iff_getElem] at hq
      obtain ⟨h1, h2, _⟩ := hq
      exact List.any_eq_true.2 ⟨_, List.getElem_mem h1, h2⟩
    rw [this]
    exact ⟨close_bool (by simp), trivial⟩
  | none =>
    have : l.any p = false := by
      rw [List.findIdx?_eq_none_iff] at hq
      rw [List.any_eq_false]; exact fun x hx => by simp [hq x hx]
    rw [this]
    exact ⟨close_bool (by simp), trivial⟩
theorem sizeDrive_c (l : List DDrive) : Fun1 Try.prog 139 [.one (.row true 2 (l.map DDrive.enc))] (.one (.lit (.int .i64 (l.length : Nat)))) := by
  refine fun1_of_vc tb_ok mix (fn := Try.f139) Try.func139 rfl (by kernel_rfl) (by kernel_rfl) (by simp [Try.f139]) (by rfl) ?_
  (conv => whnf)
  exact ⟨close_int (by simp), trivial⟩
theorem any_not {l : List DDrive} : (!l.any fun d => !driveOk d) = l.all driveOk := by
  induction l with
  | nil => rfl
  | cons x l ih => simp only [List.any_cons, List.all_cons, Bool.not_or, Bool.not_not, ih]
theorem arrayImpl_c (x : DArray) (hx : x.ok) (hu : ∀ d ∈ x.drives, usedN d.files ≤ 1000000000000) : Fun1 Try.prog 102 [.agg x.enc] (.one (.lit (.bool (arrayOk x)))) := by
  obtain ⟨hk, hm, hl, hd⟩ := hx
  unfold inI at hk hm
  refine fun1_of_vc tb_ok mix (fn := Try.f102) Try.func102 rfl (by kernel_rfl) (by kernel_rfl) (by simp [Try.f102]) (by rfl) ?_
  (conv => whnf)
  refine ⟨_, _, codeImpl_c x.k x.m, (by repeat' (first | exact lends_nil | exact lend_dead | apply lends_cons | apply lend_agg | apply lend_one | exact all2_nil | apply all2_cons | exact la_lit rfl | exact la_int (by first | rfl | omega) | exact la_row rfl rfl | exact la_loc rfl rfl rfl (by first | rfl | simp [mkL_length]) (by first | rfl | simp) | exact la_nil rfl | apply la_fn rfl | exact lend_same rfl rfl | exact lend_bor rfl rfl)), ?_⟩; (conv => whnf)
  (split <;> rename_i h <;> (try simp only [decide_eq_true_eq, decide_eq_false_iff_not, Bool.not_eq_true', Bool.not_eq_false', Bool.not_eq_true, Bool.not_eq_false, List.length_map] at h) <;> conv => whnf)
  · have hko : 1 ≤ x.k ∧ x.k ≤ 8 ∧ 0 ≤ x.m ∧ x.m ≤ 6 := by simp only [codeOk, Bool.and_eq_true, decide_eq_true_eq] at h; omega
    refine ⟨_, _, sizeDrive_c x.drives, (by repeat' (first | exact lends_nil | exact lend_dead | apply lends_cons | apply lend_agg | apply lend_one | exact all2_nil | apply all2_cons | exact la_lit rfl | exact la_int (by first | rfl | omega) | exact la_row rfl rfl | exact la_loc rfl rfl rfl (by first | rfl | simp [mkL_length]) (by first | rfl | simp) | exact la_nil rfl | apply la_fn rfl | exact lend_same rfl rfl | exact lend_bor rfl rfl)), ?_⟩; (conv => whnf)
    refine ⟨x.k + x.m, wrap64_id (by omega) (by omega), ?_⟩; (conv => whnf)
    (split <;> rename_i h2 <;> (try simp only [decide_eq_true_eq, decide_eq_false_iff_not, Bool.not_eq_true', Bool.not_eq_false', Bool.not_eq_true, Bool.not_eq_false, List.length_map] at h2) <;> conv => whnf)
    · refine ⟨_, _, containsDrive_c x.drives 181 (fun d => !driveOk d) hl (fun d hm => arrayRight1_c d (hd d hm) (hu d hm)), (by repeat' (first | exact lends_nil | exact lend_dead | apply lends_cons | apply lend_agg | apply lend_one | exact all2_nil | apply all2_cons | exact la_lit rfl | exact la_int (by first | rfl | omega) | exact la_row rfl rfl | exact la_loc rfl rfl rfl (by first | rfl | simp [mkL_length]) (by first | rfl | simp) | exact la_nil rfl | apply la_fn rfl | exact lend_same rfl rfl | exact lend_bor rfl rfl)), ?_⟩; (conv => whnf)
      exact ⟨close_bool (by simp only [arrayOk, h, h2, decide_true, Bool.true_and, any_not]), trivial⟩
    · exact ⟨close_bool (by simp [arrayOk, h2]), trivial⟩
  · exact ⟨close_bool (by simp [arrayOk, h]), trivial⟩
theorem arraySpec_c (x : DArray) (hx : x.ok) (hu : ∀ d ∈ x.drives, usedN d.files ≤ 1000000000000) : Fun1 Try.prog 99 [.agg x.enc] (.one (.lit (.bool (arrayOk x)))) := by
  obtain ⟨hk, hm, hl, hd⟩ := hx
  unfold inI at hk hm
  refine fun1_of_vc tb_ok mix (fn := Try.f99) Try.func99 rfl (by kernel_rfl) (by kernel_rfl) (by simp [Try.f99]) (by rfl) ?_
  (conv => whnf)
  refine ⟨_, _, codeSpec_c x.k x.m, (by repeat' (first | exact lends_nil | exact lend_dead | apply lends_cons | apply lend_agg | apply lend_one | exact all2_nil | apply all2_cons | exact la_lit rfl | exact la_int (by first | rfl | omega) | exact la_row rfl rfl | exact la_loc rfl rfl rfl (by first | rfl | simp [mkL_length]) (by first | rfl | simp) | exact la_nil rfl | apply la_fn rfl | exact lend_same rfl rfl | exact lend_bor rfl rfl)), ?_⟩; (conv => whnf)
  (split <;> rename_i h <;> (try simp only [decide_eq_true_eq, decide_eq_false_iff_not, Bool.not_eq_true', Bool.not_eq_false', Bool.not_eq_true, Bool.not_eq_false, List.length_map] at h) <;> conv => whnf)
  · exact ⟨close_bool (by simp [arrayOk, h]), trivial⟩
  have hko : 1 ≤ x.k ∧ x.k ≤ 8 ∧ 0 ≤ x.m ∧ x.m ≤ 6 := by simp only [codeOk, Bool.and_eq_true, decide_eq_true_eq] at h; omega
  refine ⟨x.k + x.m, wrap64_id (by omega) (by omega), ?_⟩; (conv => whnf)
  (split <;> rename_i h2 <;> (try simp only [decide_eq_true_eq, decide_eq_false_iff_not, Bool.not_eq_true', Bool.not_eq_false', Bool.not_eq_true, Bool.not_eq_false, List.length_map] at h2) <;> conv => whnf)
  · exact ⟨close_bool (by simp [arrayOk, h2]), trivial⟩
  have h2' : (x.drives.length : Int) = x.k + x.m := by first | exact h2 | simpa using h2
  refine ⟨LG (fun i : Nat => i ≤ x.drives.length ∧ ∀ j (h : j < x.drives.length), j < i → driveOk x.drives[j] = true) (fun i => x.drives.length - i) (fun i => AS.of [(1, .one (.ptr 16 0)), (3, .one (.lit (.int .i64 (i : Nat))))] [(16, .var x.enc)]), lg_init 0 ⟨by omega, fun j h h' => by omega⟩ (weak_of (by repeat (first | refine all_cons (by first | rfl | exact eq_int rfl (by first | rfl | omega | (simp; done) | (simp; omega)) | exact eq_loc rfl (by first | rfl | omega | (simp; done) | (simp; omega)) | exact eq_bool rfl (by simp_all)) ?_ | exact all_nil)) (by repeat (first | refine all_cons (by first | rfl | exact eq_int rfl (by first | rfl | omega | (simp; done) | (simp; omega)) | exact eq_loc rfl (by first | rfl | omega | (simp; done) | (simp; omega)) | exact eq_bool rfl (by simp_all)) ?_ | exact all_nil)) rfl rfl), ?_⟩
  rintro σ k ⟨i, ⟨hi, hc⟩, rfl, rfl⟩
  refine ⟨_, Weak.refl _, ?_⟩
  (conv => whnf)
  (split <;> rename_i h3 <;> (try simp only [decide_eq_true_eq, decide_eq_false_iff_not, Bool.not_eq_true', Bool.not_eq_false', Bool.not_eq_true, Bool.not_eq_false, List.length_map] at h3) <;> conv => whnf)
  · have hlt : i < x.drives.length := by omega
    refine ⟨i, rfl, _, at_map hlt, ?_⟩; (conv => whnf)
    refine ⟨_, _, driveSpec_c x.drives[i] (hd _ (List.getElem_mem hlt)) (hu _ (List.getElem_mem hlt)), (by repeat' (first | exact lends_nil | exact lend_dead | apply lends_cons | apply lend_agg | apply lend_one | exact all2_nil | apply all2_cons | exact la_lit rfl | exact la_int (by first | rfl | omega) | exact la_row rfl rfl | exact la_loc rfl rfl rfl (by first | rfl | simp [mkL_length]) (by first | rfl | simp) | exact la_nil rfl | apply la_fn rfl | exact lend_same rfl rfl | exact lend_bor rfl rfl)), ?_⟩; (conv => whnf)
    (split <;> rename_i h4 <;> (try simp only [decide_eq_true_eq, decide_eq_false_iff_not, Bool.not_eq_true', Bool.not_eq_false', Bool.not_eq_true, Bool.not_eq_false, List.length_map] at h4) <;> conv => whnf)
    · exact ⟨close_bool (by
        have : x.drives.all driveOk = false := by rw [List.all_eq_false]; exact ⟨_, List.getElem_mem hlt, by simp [h4]⟩
        simp [arrayOk, this]), trivial⟩
    · (refine ⟨((i + 1 : Nat) : Int), by rw [← wrap64_id] <;> omega, ?_⟩; conv => whnf)
      exact lg_back (i + 1) ⟨by omega, fun j hj hji => by
        by_cases e : j = i
        · subst e; exact h4
        · exact hc j hj (by omega)⟩ (by (try dsimp only); omega) (weak_of (by repeat (first | refine all_cons (by first | rfl | exact eq_int rfl (by first | rfl | omega | (simp; done) | (simp; omega)) | exact eq_loc rfl (by first | rfl | omega | (simp; done) | (simp; omega)) | exact eq_bool rfl (by simp_all)) ?_ | exact all_nil)) (by repeat (first | refine all_cons (by first | rfl | exact eq_int rfl (by first | rfl | omega | (simp; done) | (simp; omega)) | exact eq_loc rfl (by first | rfl | omega | (simp; done) | (simp; omega)) | exact eq_bool rfl (by simp_all)) ?_ | exact all_nil)) rfl rfl)
  · exact ⟨close_bool (by
      have : x.drives.all driveOk = true := by
        rw [List.all_eq_true]; intro d hd
        obtain ⟨j, hj, rfl⟩ := List.getElem_of_mem hd
        exact hc j hj (by omega)
      simp [arrayOk, this, h, h2']), trivial⟩
end Go.Proofs.Ytlijeincckbdaaa
namespace Go.Proofs.Ytlijeincckbdaaa
open Go.RowKit
set_option linter.unusedSimpArgs false
set_option linter.unusedVariables false
set_option maxRecDepth 100000
set_option maxHeartbeats 4000000
theorem names_c (d : DDrive) (hd : d.ok) : Fun1 Try.prog 182 [.agg d.enc] (.one (.row true 1 ((d.files.map DStored.name).map eStr))) := by
  obtain ⟨⟨hl, hf⟩, hr⟩ := hd
  refine fun1_of_vc tb_ok mix (fn := Try.f182) Try.func182 rfl (by kernel_rfl) (by kernel_rfl) (by simp [Try.f182]) (by show AV.nb (4 + 1) _ = true; exact nb_map (n := 4) (fun y => eStr_nbn 4 y) _) ?_
  (conv => whnf)
  refine ⟨LG (fun i : Nat => i ≤ d.files.length) (fun i => d.files.length - i) (fun i => AS.of [(3, .one (.loc 272 0 i)), (7, .one (.row false 3 (d.files.map DStored.enc))), (8, .one (.lit (.int .i64 (d.files.length : Nat)))), (9, .one (.lit (.int .i64 (i : Nat))))] [(272, .row true 1 (((d.files.take i).map DStored.name).map eStr))]), lg_init 0 (by omega) (weak_nil 3 272 1 rfl rfl (weak_of (by repeat (first | refine all_cons (by first | rfl | exact eq_int rfl (by first | rfl | omega | (simp; done) | (simp; omega)) | exact eq_loc rfl (by first | rfl | omega | (simp; done) | (simp; omega)) | exact eq_bool rfl (by simp_all)) ?_ | exact all_nil)) (by repeat (first | refine all_cons (by first | rfl | exact eq_int rfl (by first | rfl | omega | (simp; done) | (simp; omega)) | exact eq_loc rfl (by first | rfl | omega | (simp; done) | (simp; omega)) | exact eq_bool rfl (by simp_all)) ?_ | exact all_nil)) rfl rfl)), ?_⟩
  rintro σ k ⟨i, hi, rfl, rfl⟩
  refine ⟨_, Weak.refl _, ?_⟩
  (conv => whnf)
  (split <;> rename_i h <;> (try simp only [decide_eq_true_eq, decide_eq_false_iff_not, Bool.not_eq_true', Bool.not_eq_false', Bool.not_eq_true, Bool.not_eq_false, List.length_map] at h) <;> conv => whnf)
  · have hlt : i < d.files.length := by omega
    have hts : ((d.files.take (i + 1)).map DStored.name).map eStr = ((d.files.take i).map DStored.name).map eStr ++ [eStr d.files[i].name] := by
      rw [List.take_succ_eq_append_getElem hlt, List.map_append, List.map_append]; rfl
    refine ⟨i, rfl, _, at_map hlt, ?_⟩; (conv => whnf)
    refine ⟨_, _, ⟨rfl, Nat.le_refl _, rfl, rfl⟩, ?_⟩; (conv => whnf)
    refine ⟨_, rfl, rfl, by simp; omega, rfl, by simp [maxLen, chunk]; omega, by simp [chunk]; omega, ?_⟩; (conv => whnf)
    (refine ⟨((i + 1 : Nat) : Int), by rw [← wrap64_id] <;> omega, ?_⟩; conv => whnf)
    exact lg_back (i + 1) (by omega) (by (try dsimp only); omega) (weak_of (all_cons (eq_loc rfl (by simp [chunk]; omega)) (all_cons rfl (all_cons rfl (all_cons rfl all_nil)))) (all_cons (eq_row rfl (by rw [hts]; rfl)) all_nil) rfl rfl)
  · have : i = d.files.length := by omega
    subst this
    exact ⟨close_row rfl rfl (by simp) (by simp), trivial⟩
theorem cleanImpl_c (x : DArray) (hx : x.ok) (hs : (x.drives.map fun d => d.files.length).sum ≤ 1000000) : Fun1 Try.prog 103 [.agg x.enc] (.one (.row true 5 ((cleanA x).map DStep.enc))) := by
  obtain ⟨hk, hm, hl, hd⟩ := hx
  refine fun1_of_vc tb_ok mix (fn := Try.f103) Try.func103 rfl (by kernel_rfl) (by kernel_rfl) (by simp [Try.f103]) (by show AV.nb (4 + 1) _ = true; exact nb_map (n := 4) (fun y => DStep.enc_nbn 4 y) _) ?_
  (conv => whnf)
  refine ⟨LG (fun i : Nat => i ≤ x.drives.length) (fun i => x.drives.length - i) (fun i => AS.of [(3, .one (.loc 496 0 (accI cleanD 0 (x.drives.take i)).length)), (9, .one (.row false 2 (x.drives.map DDrive.enc))), (10, .one (.lit (.int .i64 (x.drives.length : Nat)))), (11, .one (.lit (.int .i64 (i : Nat))))] [(496, .row true 5 ((accI cleanD 0 (x.drives.take i)).map DStep.enc))]), lg_init 0 (by omega) (weak_nil 3 496 5 rfl rfl (weak_of (by repeat (first | refine all_cons (by first | rfl | exact eq_int rfl (by first | rfl | omega | (simp; done) | (simp; omega)) | exact eq_loc rfl (by first | rfl | omega | (simp; done) | (simp; omega)) | exact eq_bool rfl (by simp_all)) ?_ | exact all_nil)) (by repeat (first | refine all_cons (by first | rfl | exact eq_int rfl (by first | rfl | omega | (simp; done) | (simp; omega)) | exact eq_loc rfl (by first | rfl | omega | (simp; done) | (simp; omega)) | exact eq_bool rfl (by simp_all)) ?_ | exact all_nil)) rfl rfl)), ?_⟩
  rintro σ k ⟨i, hi, rfl, rfl⟩
  refine ⟨_, Weak.refl _, ?_⟩
  (conv => whnf)
  (split <;> rename_i h <;> (try simp only [decide_eq_true_eq, decide_eq_false_iff_not, Bool.not_eq_true', Bool.not_eq_false', Bool.not_eq_true, Bool.not_eq_false, List.length_map] at h) <;> conv => whnf)
  · have hlt : i < x.drives.length := by omega
    have hts := accI_take_succ (f := cleanD) hlt
    have hle := accI_len_le (f := cleanD) (g := fun d => d.files.length) cleanD_len x.drives (i + 1)
    rw [hts, List.length_append] at hle
    refine ⟨i, rfl, _, at_map hlt, ?_⟩; (conv => whnf)
    refine ⟨_, _, names_c x.drives[i] (hd _ (List.getElem_mem hlt)), (by repeat' (first | exact lends_nil | exact lend_dead | apply lends_cons | apply lend_agg | apply lend_one | exact all2_nil | apply all2_cons | exact la_lit rfl | exact la_int (by first | rfl | omega) | exact la_row rfl rfl | exact la_loc rfl rfl rfl (by first | rfl | simp [mkL_length]) (by first | rfl | simp) | exact la_nil rfl | apply la_fn rfl | exact lend_same rfl rfl | exact lend_bor rfl rfl)), ?_⟩; (conv => whnf)
    have hdi := (hd _ (List.getElem_mem hlt)).1.1
    generalize hA : accI cleanD 0 (x.drives.take i) = A at *
    generalize hD : x.drives[i] = D at *
    refine ⟨LG (fun k : Nat => k ≤ D.files.length) (fun k => D.files.length - k) (fun k => AS.of [(3, .one (.loc 496 0 (A ++ ((D.files.take k).filter fun f => isTmp f.name).map fun f => rmStep i f.name).length)), (4, .one (.lit (.int .i64 (i : Nat)))), (9, .one (.row false 2 (x.drives.map DDrive.enc))), (10, .one (.lit (.int .i64 (x.drives.length : Nat)))), (11, .one (.lit (.int .i64 (i : Nat)))), (17, .one (.loc 272 0 D.files.length)), (18, .one (.lit (.int .i64 (D.files.length : Nat)))), (19, .one (.lit (.int .i64 (k : Nat))))]
      [(496, .row true 5 ((A ++ ((D.files.take k).filter fun f => isTmp f.name).map fun f => rmStep i f.name).map DStep.enc)), (272, .row true 1 ((D.files.map DStored.name).map eStr))]),
      lg_init 0 (by omega) (weak_of (all_cons (eq_loc rfl (by rw [← hA]; simp)) (all_cons rfl (all_cons rfl (all_cons rfl (all_cons rfl (all_cons (eq_loc rfl (by simp)) (all_cons (eq_int rfl (by simp)) (all_cons rfl all_nil)))))))) (all_cons (eq_row rfl (by rw [← hA]; simp)) (all_cons rfl all_nil)) rfl rfl), ?_⟩
    rintro σ m ⟨k, hki, rfl, rfl⟩
    refine ⟨_, Weak.refl _, ?_⟩
    (conv => whnf)
    (split <;> rename_i h2 <;> (try simp only [decide_eq_true_eq, decide_eq_false_iff_not, Bool.not_eq_true', Bool.not_eq_false', Bool.not_eq_true, Bool.not_eq_false, List.length_map] at h2) <;> conv => whnf)
    · have hlk : k < D.files.length := by omega
      have htk := filterMap_take_succ (p := fun f : DStored => isTmp f.name) (f := fun f => rmStep i f.name) hlk
      have hkl : (((D.files.take k).filter fun f => isTmp f.name).map fun f => rmStep i f.name).length ≤ k := by
        rw [List.length_map]; exact Nat.le_trans (List.length_filter_le _ _) (by rw [List.length_take]; omega)
      refine ⟨k, rfl, hlk, ?_⟩; (conv => whnf)
      refine ⟨_, (by rw [Nat.zero_add, List.map_map]; exact at_map hlk), ?_⟩; (conv => whnf)
      refine ⟨_, _, isTemp_c D.files[k].name, (by repeat' (first | exact lends_nil | exact lend_dead | apply lends_cons | apply lend_agg | apply lend_one | exact all2_nil | apply all2_cons | exact la_lit rfl | exact la_int (by first | rfl | omega) | exact la_row rfl rfl | exact la_loc rfl rfl rfl (by first | rfl | simp [mkL_length]) (by first | rfl | simp) | exact la_nil rfl | apply la_fn rfl | exact lend_same rfl rfl | exact lend_bor rfl rfl)), ?_⟩; (conv => whnf)
      (split <;> rename_i h3 <;> (try simp only [decide_eq_true_eq, decide_eq_false_iff_not, Bool.not_eq_true', Bool.not_eq_false', Bool.not_eq_true, Bool.not_eq_false, List.length_map] at h3) <;> conv => whnf)
      · rw [if_pos h3] at htk
        have hmk : (A ++ ((D.files.take (k + 1)).filter fun f => isTmp f.name).map fun f => rmStep i f.name).map DStep.enc = (A ++ ((D.files.take k).filter fun f => isTmp f.name).map fun f => rmStep i f.name).map DStep.enc ++ [(rmStep i D.files[k].name).enc] := by rw [htk, ← List.append_assoc, List.map_append]; rfl
        refine ⟨_, _, ⟨rfl, Nat.le_refl _, rfl, rfl⟩, ?_⟩; (conv => whnf)
        refine ⟨_, rfl, rfl, by simp, rfl, by simp [maxLen, chunk] at *; omega, by simp [chunk] at *; omega, ?_⟩; (conv => whnf)
        refine ⟨((k + 1 : Nat) : Int), by rw [← wrap64_id] <;> omega, ?_⟩; (conv => whnf)
        exact lg_back (k + 1) (by omega) (by (try dsimp only); omega) (weak_of (all_cons (eq_loc rfl (by rw [htk]; simp [chunk]; omega)) (all_cons rfl (all_cons rfl (all_cons rfl (all_cons rfl (all_cons rfl (all_cons rfl (all_cons rfl all_nil)))))))) (all_cons (eq_row rfl (by rw [hmk]; rfl)) (all_cons rfl all_nil)) rfl rfl)
      · rw [if_neg (by simp [h3]), List.append_nil] at htk
        refine ⟨((k + 1 : Nat) : Int), by rw [← wrap64_id] <;> omega, ?_⟩; (conv => whnf)
        exact lg_back (k + 1) (by omega) (by (try dsimp only); omega) (weak_of (all_cons (eq_loc rfl (by rw [htk])) (all_cons rfl (all_cons rfl (all_cons rfl (all_cons rfl (all_cons rfl (all_cons rfl (all_cons rfl all_nil)))))))) (all_cons (eq_row rfl (by rw [htk])) (all_cons rfl all_nil)) rfl rfl)
    · have : k = D.files.length := by omega
      subst this
      (refine ⟨((i + 1 : Nat) : Int), by rw [← wrap64_id] <;> omega, ?_⟩; conv => whnf)
      have hfin : accI cleanD 0 (x.drives.take (i + 1)) = A ++ ((D.files.take D.files.length).filter fun f => isTmp f.name).map fun f => rmStep i f.name := by rw [hts, List.take_length]; rfl
      exact lg_back (i + 1) (by omega) (by (try dsimp only); omega) (weak_of (all_cons (eq_loc rfl (by rw [hfin])) (all_cons rfl (all_cons rfl (all_cons rfl all_nil)))) (all_cons (eq_row rfl (by rw [hfin])) all_nil) rfl rfl)
  · have : i = x.drives.length := by omega
    subst this
    rw [List.take_length]
    exact ⟨close_row rfl rfl (by simp [cleanA]) (by simp [cleanA]), trivial⟩
theorem cleanSpec_c (x : DArray) (hx : x.ok) (hs : (x.drives.map fun d => d.files.length).sum ≤ 1000000) : Fun1 Try.prog 100 [.agg x.enc] (.one (.row true 5 ((cleanA x).map DStep.enc))) := by
  obtain ⟨hk, hm, hl, hd⟩ := hx
  refine fun1_of_vc tb_ok mix (fn := Try.f100) Try.func100 rfl (by kernel_rfl) (by kernel_rfl) (by simp [Try.f100]) (by show AV.nb (4 + 1) _ = true; exact nb_map (n := 4) (fun y => DStep.enc_nbn 4 y) _) ?_
  (conv => whnf)
  refine ⟨LG (fun i : Nat => i ≤ x.drives.length) (fun i => x.drives.length - i) (fun i => AS.of [(1, .one (.ptr 16 0)), (3, .one (.loc 112 0 (accI cleanD 0 (x.drives.take i)).length)), (4, .one (.lit (.int .i64 (i : Nat))))] [(16, .var x.enc), (112, .row true 5 ((accI cleanD 0 (x.drives.take i)).map DStep.enc))]), lg_init 0 (by omega) (weak_of (by repeat (first | refine all_cons (by first | rfl | exact eq_int rfl (by first | rfl | omega | (simp; done) | (simp; omega)) | exact eq_loc rfl (by first | rfl | omega | (simp; done) | (simp; omega)) | exact eq_bool rfl (by simp_all)) ?_ | exact all_nil)) (by repeat (first | refine all_cons (by first | rfl | exact eq_int rfl (by first | rfl | omega | (simp; done) | (simp; omega)) | exact eq_loc rfl (by first | rfl | omega | (simp; done) | (simp; omega)) | exact eq_bool rfl (by simp_all)) ?_ | exact all_nil)) rfl rfl), ?_⟩
  rintro σ k ⟨i, hi, rfl, rfl⟩
  refine ⟨_, Weak.refl _, ?_⟩
  (conv => whnf)
  (split <;> rename_i h <;> (try simp only [decide_eq_true_eq, decide_eq_false_iff_not, Bool.not_eq_true', Bool.not_eq_false', Bool.not_eq_true, Bool.not_eq_false, List.length_map] at h) <;> conv => whnf)
  · have hlt : i < x.drives.length := by omega
    have hts := accI_take_succ (f := cleanD) hlt
    have hle := accI_len_le (f := cleanD) (g := fun d => d.files.length) cleanD_len x.drives (i + 1)
    rw [hts, List.length_append] at hle
    have hdi := (hd _ (List.getElem_mem hlt)).1.1
    generalize hA : accI cleanD 0 (x.drives.take i) = A at *
    refine ⟨LG (fun k : Nat => k ≤ x.drives[i].files.length) (fun k => x.drives[i].files.length - k) (fun k => AS.of [(1, .one (.ptr 16 0)), (3, .one (.loc 112 0 (A ++ ((x.drives[i].files.take k).filter fun f => isTmp f.name).map fun f => rmStep i f.name).length)), (4, .one (.lit (.int .i64 (i : Nat)))), (5, .one (.lit (.int .i64 (k : Nat))))]
      [(16, .var x.enc), (112, .row true 5 ((A ++ ((x.drives[i].files.take k).filter fun f => isTmp f.name).map fun f => rmStep i f.name).map DStep.enc))]),
      lg_init 0 (by omega) (weak_of (all_cons rfl (all_cons (eq_loc rfl (by rw [← hA]; simp)) (all_cons rfl (all_cons rfl all_nil)))) (all_cons rfl (all_cons (eq_row rfl (by rw [← hA]; simp)) all_nil)) rfl rfl), ?_⟩
    rintro σ m ⟨k, hki, rfl, rfl⟩
    refine ⟨_, Weak.refl _, ?_⟩
    (conv => whnf)
    refine ⟨i, rfl, _, at_map hlt, ?_⟩; (conv => whnf)
    (split <;> rename_i h2 <;> (try simp only [decide_eq_true_eq, decide_eq_false_iff_not, Bool.not_eq_true', Bool.not_eq_false', Bool.not_eq_true, Bool.not_eq_false, List.length_map] at h2) <;> conv => whnf)
    · have hlk : k < x.drives[i].files.length := by omega
      have htk := filterMap_take_succ (p := fun f : DStored => isTmp f.name) (f := fun f => rmStep i f.name) hlk
      have hkl : (((x.drives[i].files.take k).filter fun f => isTmp f.name).map fun f => rmStep i f.name).length ≤ k := by
        rw [List.length_map]; exact Nat.le_trans (List.length_filter_le _ _) (by rw [List.length_take]; omega)
      refine ⟨i, rfl, _, at_map hlt, ?_⟩; (conv => whnf)
      refine ⟨k, rfl, _, at_map hlk, ?_⟩; (conv => whnf)
      refine ⟨_, _, l12Begins_c x.drives[i].files[k].name ⟨#[116, 45]⟩, (by repeat' (first | exact lends_nil | exact lend_dead | apply lends_cons | apply lend_agg | apply lend_one | exact all2_nil | apply all2_cons | exact la_lit rfl | exact la_int (by first | rfl | omega) | exact la_row rfl rfl | exact la_loc rfl rfl rfl (by first | rfl | simp [mkL_length]) (by first | rfl | simp) | exact la_nil rfl | apply la_fn rfl | exact lend_same rfl rfl | exact lend_bor rfl rfl)), ?_⟩; (conv => whnf)
      by_cases h3 : isTmp x.drives[i].files[k].name = true
      · rw [if_pos h3] at htk
        have hmk : (A ++ ((x.drives[i].files.take (k + 1)).filter fun f => isTmp f.name).map fun f => rmStep i f.name).map DStep.enc = (A ++ ((x.drives[i].files.take k).filter fun f => isTmp f.name).map fun f => rmStep i f.name).map DStep.enc ++ [(rmStep i x.drives[i].files[k].name).enc] := by rw [htk, ← List.append_assoc, List.map_append]; rfl
        (split <;> rename_i h4 <;> (try simp only [decide_eq_true_eq, decide_eq_false_iff_not, Bool.not_eq_true', Bool.not_eq_false', Bool.not_eq_true, Bool.not_eq_false, List.length_map] at h4) <;> conv => whnf)
        case h_2 => rw [show begins x.drives[i].files[k].name ⟨#[116, 45]⟩ = isTmp x.drives[i].files[k].name from rfl, h3] at h4; cases h4
        refine ⟨_, _, ⟨rfl, Nat.le_refl _, rfl, rfl⟩, ?_⟩; (conv => whnf)
        refine ⟨_, rfl, rfl, by simp, rfl, by simp [maxLen, chunk] at *; omega, by simp [chunk] at *; omega, ?_⟩; (conv => whnf)
        refine ⟨((k + 1 : Nat) : Int), by rw [← wrap64_id] <;> omega, ?_⟩; (conv => whnf)
        exact lg_back (k + 1) (by omega) (by (try dsimp only); omega) (weak_of (all_cons rfl (all_cons (eq_loc rfl (by rw [htk]; simp [chunk]; omega)) (all_cons rfl (all_cons rfl all_nil)))) (all_cons rfl (all_cons (eq_row rfl (by rw [hmk]; rfl)) all_nil)) rfl rfl)
      · rw [if_neg (by simp [h3]), List.append_nil] at htk
        (split <;> rename_i h4 <;> (try simp only [decide_eq_true_eq, decide_eq_false_iff_not, Bool.not_eq_true', Bool.not_eq_false', Bool.not_eq_true, Bool.not_eq_false, List.length_map] at h4) <;> conv => whnf)
        case h_1 => exact absurd h4 h3
        refine ⟨((k + 1 : Nat) : Int), by rw [← wrap64_id] <;> omega, ?_⟩; (conv => whnf)
        exact lg_back (k + 1) (by omega) (by (try dsimp only); omega) (weak_of (all_cons rfl (all_cons (eq_loc rfl (by rw [htk])) (all_cons rfl (all_cons rfl all_nil)))) (all_cons rfl (all_cons (eq_row rfl (by rw [htk])) all_nil)) rfl rfl)
    · have hkk : k = x.drives[i].files.length := by omega
      (refine ⟨((i + 1 : Nat) : Int), by rw [← wrap64_id] <;> omega, ?_⟩; conv => whnf)
      have hfin : accI cleanD 0 (x.drives.take (i + 1)) = A ++ ((x.drives[i].files.take k).filter fun f => isTmp f.name).map fun f => rmStep i f.name := by rw [hts, hkk, List.take_length]; rfl
      exact lg_back (i + 1) (by omega) (by (try dsimp only); omega) (weak_of (all_cons rfl (all_cons (eq_loc rfl (by rw [hfin])) (all_cons rfl all_nil))) (all_cons rfl (all_cons (eq_row rfl (by rw [hfin])) all_nil)) rfl rfl)
  · have : i = x.drives.length := by omega
    subst this
    rw [List.take_length]
    exact ⟨close_row rfl rfl (by simp [cleanA]) (by simp [cleanA]), trivial⟩
def cleanR (x : DArray) : List DStep := if arrayOk x = true then cleanA x else []
theorem clean_bounds (x : DArray) (h : arrayOk x = true) : (x.drives.map fun d => d.files.length).sum ≤ 840 := by
  obtain ⟨h1, h2, _⟩ := arrayOk_len h
  have := sum_le_mul (f := fun d : DDrive => d.files.length) (B := 60) (l := x.drives) fun d hd => driveOk_len (h2 d hd)
  omega
theorem cleanStepsSpec_c (x : DArray) (hx : x.ok) (hu : ∀ d ∈ x.drives, usedN d.files ≤ 1000000000000) : Fun1 Try.prog 23 [.agg x.enc] (.one (.row true 5 ((cleanR x).map DStep.enc))) := by
  refine fun1_of_vc tb_ok mix (fn := Try.f23) Try.func23 rfl (by kernel_rfl) (by kernel_rfl) (by simp [Try.f23]) (by show AV.nb (4 + 1) _ = true; exact nb_map (n := 4) (fun y => DStep.enc_nbn 4 y) _) ?_
  (conv => whnf)
  refine ⟨_, _, arraySpec_c x hx hu, (by repeat' (first | exact lends_nil | exact lend_dead | apply lends_cons | apply lend_agg | apply lend_one | exact all2_nil | apply all2_cons | exact la_lit rfl | exact la_int (by first | rfl | omega) | exact la_row rfl rfl | exact la_loc rfl rfl rfl (by first | rfl | simp [mkL_length]) (by first | rfl | simp) | exact la_nil rfl | apply la_fn rfl | exact lend_same rfl rfl | exact lend_bor rfl rfl)), ?_⟩; (conv => whnf)
  (split <;> rename_i h <;> (try simp only [decide_eq_true_eq, decide_eq_false_iff_not, Bool.not_eq_true', Bool.not_eq_false', Bool.not_eq_true, Bool.not_eq_false, List.length_map] at h) <;> conv => whnf)
  · exact ⟨close_row rfl rfl rfl (by simp [cleanR, h, chunk]), trivial⟩
  · have := clean_bounds x h
    refine ⟨_, _, cleanSpec_c x hx (by omega), (by repeat' (first | exact lends_nil | exact lend_dead | apply lends_cons | apply lend_agg | apply lend_one | exact all2_nil | apply all2_cons | exact la_lit rfl | exact la_int (by first | rfl | omega) | exact la_row rfl rfl | exact la_loc rfl rfl rfl (by first | rfl | simp [mkL_length]) (by first | rfl | simp) | exact la_nil rfl | apply la_fn rfl | exact lend_same rfl rfl | exact lend_bor rfl rfl)), ?_⟩; (conv => whnf)
    exact ⟨close_row rfl rfl rfl (by simp [cleanR, h]), trivial⟩
theorem cleanStepsImpl_c (x : DArray) (hx : x.ok) (hu : ∀ d ∈ x.drives, usedN d.files ≤ 1000000000000) : Fun1 Try.prog 25 [.agg x.enc] (.one (.row true 5 ((cleanR x).map DStep.enc))) := by
  refine fun1_of_vc tb_ok mix (fn := Try.f25) Try.func25 rfl (by kernel_rfl) (by kernel_rfl) (by simp [Try.f25]) (by show AV.nb (4 + 1) _ = true; exact nb_map (n := 4) (fun y => DStep.enc_nbn 4 y) _) ?_
  (conv => whnf)
  refine ⟨_, _, arrayImpl_c x hx hu, (by repeat' (first | exact lends_nil | exact lend_dead | apply lends_cons | apply lend_agg | apply lend_one | exact all2_nil | apply all2_cons | exact la_lit rfl | exact la_int (by first | rfl | omega) | exact la_row rfl rfl | exact la_loc rfl rfl rfl (by first | rfl | simp [mkL_length]) (by first | rfl | simp) | exact la_nil rfl | apply la_fn rfl | exact lend_same rfl rfl | exact lend_bor rfl rfl)), ?_⟩; (conv => whnf)
  (split <;> rename_i h <;> (try simp only [decide_eq_true_eq, decide_eq_false_iff_not, Bool.not_eq_true', Bool.not_eq_false', Bool.not_eq_true, Bool.not_eq_false, List.length_map] at h) <;> conv => whnf)
  · exact ⟨close_nil (by simp [cleanR, h]), trivial⟩
  · have := clean_bounds x h
    refine ⟨_, _, cleanImpl_c x hx (by omega), (by repeat' (first | exact lends_nil | exact lend_dead | apply lends_cons | apply lend_agg | apply lend_one | exact all2_nil | apply all2_cons | exact la_lit rfl | exact la_int (by first | rfl | omega) | exact la_row rfl rfl | exact la_loc rfl rfl rfl (by first | rfl | simp [mkL_length]) (by first | rfl | simp) | exact la_nil rfl | apply la_fn rfl | exact lend_same rfl rfl | exact lend_bor rfl rfl)), ?_⟩; (conv => whnf)
    exact ⟨close_row rfl rfl rfl (by simp [cleanR, h]), trivial⟩
end Go.Proofs.Ytlijeincckbdaaa
namespace Go.Proofs.Ytlijeincckbdaaa
open Go.RowKit
set_option linter.unusedSimpArgs false
set_option linter.unusedVariables false
set_option maxRecDepth 100000
set_option maxHeartbeats 4000000
def objOk (s : ByteArray) : Bool := nameOk s 60 && !isTmp s
theorem nameOk_60 (s : ByteArray) : nameOk s 60 = (nameOk s 80 && decide ((s.size : Int) ≤ 60)) := by
  rw [Bool.eq_iff_iff]
  simp only [nameOk, Bool.and_eq_true, decide_eq_true_eq]
  constructor
  · rintro ⟨h1, h2, h3⟩; exact ⟨⟨h1, h2, by omega⟩, h3⟩
  · rintro ⟨⟨h1, h2, h3⟩, h4⟩; exact ⟨h1, h2, h4⟩
theorem objectImpl_c (s : ByteArray) (hs : s.size ≤ 4294967296) : Fun1 Try.prog 110 [.one (.lit (.string s))] (.one (.lit (.bool (objOk s)))) := by
  refine fun1_of_vc tb_ok mix (fn := Try.f110) Try.func110 rfl (by kernel_rfl) (by kernel_rfl) (by simp [Try.f110]) (by rfl) ?_
  (conv => whnf)
  refine ⟨_, _, isName_c s 60 hs, (by repeat' (first | exact lends_nil | exact lend_dead | apply lends_cons | apply lend_agg | apply lend_one | exact all2_nil | apply all2_cons | exact la_lit rfl | exact la_int (by first | rfl | omega) | exact la_row rfl rfl | exact la_loc rfl rfl rfl (by first | rfl | simp [mkL_length]) (by first | rfl | simp) | exact la_nil rfl | apply la_fn rfl | exact lend_same rfl rfl | exact lend_bor rfl rfl)), ?_⟩; (conv => whnf)
  (split <;> rename_i h <;> (try simp only [decide_eq_true_eq, decide_eq_false_iff_not, Bool.not_eq_true', Bool.not_eq_false', Bool.not_eq_true, Bool.not_eq_false, List.length_map] at h) <;> conv => whnf)
  · refine ⟨_, _, hasPrefix_c s ⟨#[116, 45]⟩, (by repeat' (first | exact lends_nil | exact lend_dead | apply lends_cons | apply lend_agg | apply lend_one | exact all2_nil | apply all2_cons | exact la_lit rfl | exact la_int (by first | rfl | omega) | exact la_row rfl rfl | exact la_loc rfl rfl rfl (by first | rfl | simp [mkL_length]) (by first | rfl | simp) | exact la_nil rfl | apply la_fn rfl | exact lend_same rfl rfl | exact lend_bor rfl rfl)), ?_⟩; (conv => whnf)
    exact ⟨close_bool (by rw [objOk, h]; rfl), trivial⟩
  · exact ⟨close_bool (by rw [objOk, h]; rfl), trivial⟩
theorem objectSpec_c (s : ByteArray) (hs : s.size ≤ 4294967296) : Fun1 Try.prog 108 [.one (.lit (.string s))] (.one (.lit (.bool (objOk s)))) := by
  refine fun1_of_vc tb_ok mix (fn := Try.f108) Try.func108 rfl (by kernel_rfl) (by kernel_rfl) (by simp [Try.f108]) (by rfl) ?_
  (conv => whnf)
  refine ⟨_, _, nameSpec_c s hs, (by repeat' (first | exact lends_nil | exact lend_dead | apply lends_cons | apply lend_agg | apply lend_one | exact all2_nil | apply all2_cons | exact la_lit rfl | exact la_int (by first | rfl | omega) | exact la_row rfl rfl | exact la_loc rfl rfl rfl (by first | rfl | simp [mkL_length]) (by first | rfl | simp) | exact la_nil rfl | apply la_fn rfl | exact lend_same rfl rfl | exact lend_bor rfl rfl)), ?_⟩; (conv => whnf)
  (split <;> rename_i h <;> (try simp only [decide_eq_true_eq, decide_eq_false_iff_not, Bool.not_eq_true', Bool.not_eq_false', Bool.not_eq_true, Bool.not_eq_false, List.length_map] at h) <;> conv => whnf)
  · (split <;> rename_i h2 <;> (try simp only [decide_eq_true_eq, decide_eq_false_iff_not, Bool.not_eq_true', Bool.not_eq_false', Bool.not_eq_true, Bool.not_eq_false, List.length_map] at h2) <;> conv => whnf)
    · have h60 : nameOk s 60 = true := by rw [nameOk_60, h]; simp [h2]
      (split <;> rename_i h3 <;> (try simp only [decide_eq_true_eq, decide_eq_false_iff_not, Bool.not_eq_true', Bool.not_eq_false', Bool.not_eq_true, Bool.not_eq_false, List.length_map] at h3) <;> conv => whnf)
      · exact ⟨close_bool (by simp [objOk, h60, isTmp]; omega), trivial⟩
      · refine ⟨by simp, by simp, by simp; omega, _, rfl, ?_⟩; (conv => whnf)
        exact ⟨close_bool (by
          have h4 : 2 ≤ s.size := by omega
          simp only [objOk, h60, isTmp, h4, decide_true, Bool.true_and]
          rfl), trivial⟩
    · exact ⟨close_bool (by rw [objOk, nameOk_60, h]; simp [h2]), trivial⟩
  · exact ⟨close_bool (by rw [objOk, nameOk_60, h]; simp), trivial⟩
theorem has_c (d : DDrive) (hd : driveOk d = true) (name : ByteArray) (hl : d.files.length ≤ 4294967296) : Fun1 Try.prog 187 [.agg d.enc, .one (.lit (.string name))] (.one (.lit (.bool (hasN d.files name)))) := by
  refine fun1_of_vc tb_ok mix (fn := Try.f187) Try.func187 rfl (by kernel_rfl) (by kernel_rfl) (by simp [Try.f187]) (by rfl) ?_
  (conv => whnf)
  refine ⟨_, _, find_c d hd name hl, (by repeat' (first | exact lends_nil | exact lend_dead | apply lends_cons | apply lend_agg | apply lend_one | exact all2_nil | apply all2_cons | exact la_lit rfl | exact la_int (by first | rfl | omega) | exact la_row rfl rfl | exact la_loc rfl rfl rfl (by first | rfl | simp [mkL_length]) (by first | rfl | simp) | exact la_nil rfl | apply la_fn rfl | exact lend_same rfl rfl | exact lend_bor rfl rfl)), ?_⟩; (conv => whnf)
  exact (by repeat' (first | exact trivial | exact close_int rfl | exact close_str rfl | exact close_bool rfl | exact close_int (by omega) | exact close_row rfl rfl (by first | rfl | simp) (by first | rfl | simp) | exact close_nil (by first | rfl | simp) | exact rfl | apply And.intro | apply closeTs_cons rfl))
def rmF (name : ByteArray) (i : Nat) (d : DDrive) : List DStep := if hasN d.files name = true then [rmStep i name] else []
theorem rmF_len (name : ByteArray) (i : Nat) (d : DDrive) : (rmF name i d).length ≤ 1 := by unfold rmF; split <;> simp
theorem sum_one {α : Type} (l : List α) : (l.map fun _ => 1).sum = l.length := by induction l with | nil => rfl | cons x l ih => simp only [List.map_cons, List.sum_cons, List.length_cons, ih]; omega
theorem removeImpl_c (x : DArray) (hx : x.ok) (hd : ∀ d ∈ x.drives, driveOk d = true) (name : ByteArray) : Fun1 Try.prog 111 [.agg x.enc, .one (.lit (.string name))] (.one (.row true 5 ((accI (rmF name) 0 x.drives).map DStep.enc))) := by
  obtain ⟨hk, hm, hl, hdo⟩ := hx
  refine fun1_of_vc tb_ok mix (fn := Try.f111) Try.func111 rfl (by kernel_rfl) (by kernel_rfl) (by simp [Try.f111]) (by show AV.nb (4 + 1) _ = true; exact nb_map (n := 4) (fun y => DStep.enc_nbn 4 y) _) ?_
  (conv => whnf)
  refine ⟨LG (fun i : Nat => i ≤ x.drives.length) (fun i => x.drives.length - i) (fun i => AS.of [(1, .one (.lit (.string name))), (5, .one (.loc 400 0 (accI (rmF name) 0 (x.drives.take i)).length)), (9, .one (.row false 2 (x.drives.map DDrive.enc))), (10, .one (.lit (.int .i64 (x.drives.length : Nat)))), (11, .one (.lit (.int .i64 (i : Nat))))] [(400, .row true 5 ((accI (rmF name) 0 (x.drives.take i)).map DStep.enc))]), lg_init 0 (by omega) (weak_nil 5 400 5 rfl rfl (weak_of (by repeat (first | refine all_cons (by first | rfl | exact eq_int rfl (by first | rfl | omega | (simp; done) | (simp; omega)) | exact eq_loc rfl (by first | rfl | omega | (simp; done) | (simp; omega)) | exact eq_bool rfl (by simp_all)) ?_ | exact all_nil)) (by repeat (first | refine all_cons (by first | rfl | exact eq_int rfl (by first | rfl | omega | (simp; done) | (simp; omega)) | exact eq_loc rfl (by first | rfl | omega | (simp; done) | (simp; omega)) | exact eq_bool rfl (by simp_all)) ?_ | exact all_nil)) rfl rfl)), ?_⟩
  rintro σ k ⟨i, hi, rfl, rfl⟩
  refine ⟨_, Weak.refl _, ?_⟩
  (conv => whnf)
  (split <;> rename_i h <;> (try simp only [decide_eq_true_eq, decide_eq_false_iff_not, Bool.not_eq_true', Bool.not_eq_false', Bool.not_eq_true, Bool.not_eq_false, List.length_map] at h) <;> conv => whnf)
  · have hlt : i < x.drives.length := by omega
    have hts := accI_take_succ (f := rmF name) hlt
    have hle := accI_len_le (f := rmF name) (g := fun _ => 1) (rmF_len name) x.drives i
    rw [sum_one] at hle
    refine ⟨i, rfl, _, at_map hlt, ?_⟩; (conv => whnf)
    refine ⟨_, _, has_c x.drives[i] (hd _ (List.getElem_mem hlt)) name (hdo _ (List.getElem_mem hlt)).1.1, (by repeat' (first | exact lends_nil | exact lend_dead | apply lends_cons | apply lend_agg | apply lend_one | exact all2_nil | apply all2_cons | exact la_lit rfl | exact la_int (by first | rfl | omega) | exact la_row rfl rfl | exact la_loc rfl rfl rfl (by first | rfl | simp [mkL_length]) (by first | rfl | simp) | exact la_nil rfl | apply la_fn rfl | exact lend_same rfl rfl | exact lend_bor rfl rfl)), ?_⟩; (conv => whnf)
    (split <;> rename_i h3 <;> (try simp only [decide_eq_true_eq, decide_eq_false_iff_not, Bool.not_eq_true', Bool.not_eq_false', Bool.not_eq_true, Bool.not_eq_false, List.length_map] at h3) <;> conv => whnf)
    · have hr : rmF name i x.drives[i] = [rmStep i name] := by rw [rmF, if_pos h3]
      rw [hr] at hts
      have hmk : (accI (rmF name) 0 (x.drives.take (i + 1))).map DStep.enc = (accI (rmF name) 0 (x.drives.take i)).map DStep.enc ++ [(rmStep i name).enc] := by rw [hts, List.map_append]; rfl
      refine ⟨_, _, ⟨rfl, Nat.le_refl _, rfl, rfl⟩, ?_⟩; (conv => whnf)
      refine ⟨_, rfl, rfl, by simp, rfl, by simp [maxLen, chunk]; omega, by simp [chunk]; omega, ?_⟩; (conv => whnf)
      (refine ⟨((i + 1 : Nat) : Int), by rw [← wrap64_id] <;> omega, ?_⟩; conv => whnf)
      exact lg_back (i + 1) (by omega) (by (try dsimp only); omega) (weak_of (all_cons rfl (all_cons (eq_loc rfl (by rw [hts]; simp [chunk])) (all_cons rfl (all_cons rfl (all_cons rfl all_nil))))) (all_cons (eq_row rfl (by rw [hmk]; rfl)) all_nil) rfl rfl)
    · have hr : rmF name i x.drives[i] = [] := by rw [rmF, if_neg (by simp [h3])]
      rw [hr, List.append_nil] at hts
      (refine ⟨((i + 1 : Nat) : Int), by rw [← wrap64_id] <;> omega, ?_⟩; conv => whnf)
      exact lg_back (i + 1) (by omega) (by (try dsimp only); omega) (weak_of (all_cons rfl (all_cons (eq_loc rfl (by rw [hts])) (all_cons rfl (all_cons rfl (all_cons rfl all_nil))))) (all_cons (eq_row rfl (by rw [hts])) all_nil) rfl rfl)
  · have : i = x.drives.length := by omega
    subst this
    rw [List.take_length]
    exact ⟨close_row rfl rfl (by simp) (by simp), trivial⟩
theorem findI_nonneg {fs : List DStored} {name : ByteArray} : (0 ≤ findI fs name) ↔ hasN fs name = true := by
  unfold findI; split <;> rename_i h <;> simp [h]
theorem removeSpec_c (x : DArray) (hx : x.ok) (name : ByteArray) : Fun1 Try.prog 109 [.agg x.enc, .one (.lit (.string name))] (.one (.row true 5 ((accI (rmF name) 0 x.drives).map DStep.enc))) := by
  obtain ⟨hk, hm, hl, hdo⟩ := hx
  refine fun1_of_vc tb_ok mix (fn := Try.f109) Try.func109 rfl (by kernel_rfl) (by kernel_rfl) (by simp [Try.f109]) (by show AV.nb (4 + 1) _ = true; exact nb_map (n := 4) (fun y => DStep.enc_nbn 4 y) _) ?_
  (conv => whnf)
  refine ⟨LG (fun i : Nat => i ≤ x.drives.length) (fun i => x.drives.length - i) (fun i => AS.of [(1, .one (.lit (.string name))), (2, .one (.ptr 32 0)), (5, .one (.loc 112 0 (accI (rmF name) 0 (x.drives.take i)).length)), (6, .one (.lit (.int .i64 (i : Nat))))] [(32, .var x.enc), (112, .row true 5 ((accI (rmF name) 0 (x.drives.take i)).map DStep.enc))]), lg_init 0 (by omega) (weak_of (by repeat (first | refine all_cons (by first | rfl | exact eq_int rfl (by first | rfl | omega | (simp; done) | (simp; omega)) | exact eq_loc rfl (by first | rfl | omega | (simp; done) | (simp; omega)) | exact eq_bool rfl (by simp_all)) ?_ | exact all_nil)) (by repeat (first | refine all_cons (by first | rfl | exact eq_int rfl (by first | rfl | omega | (simp; done) | (simp; omega)) | exact eq_loc rfl (by first | rfl | omega | (simp; done) | (simp; omega)) | exact eq_bool rfl (by simp_all)) ?_ | exact all_nil)) rfl rfl), ?_⟩
  rintro σ k ⟨i, hi, rfl, rfl⟩
  refine ⟨_, Weak.refl _, ?_⟩
  (conv => whnf)
  (split <;> rename_i h <;> (try simp only [decide_eq_true_eq, decide_eq_false_iff_not, Bool.not_eq_true', Bool.not_eq_false', Bool.not_eq_true, Bool.not_eq_false, List.length_map] at h) <;> conv => whnf)
  · have hlt : i < x.drives.length := by omega
    have hts := accI_take_succ (f := rmF name) hlt
    have hle := accI_len_le (f := rmF name) (g := fun _ => 1) (rmF_len name) x.drives i
    rw [sum_one] at hle
    refine ⟨i, rfl, _, at_map hlt, ?_⟩; (conv => whnf)
    refine ⟨_, _, l08Find_c x.drives[i] name (hdo _ (List.getElem_mem hlt)).1.1, (by repeat' (first | exact lends_nil | exact lend_dead | apply lends_cons | apply lend_agg | apply lend_one | exact all2_nil | apply all2_cons | exact la_lit rfl | exact la_int (by first | rfl | omega) | exact la_row rfl rfl | exact la_loc rfl rfl rfl (by first | rfl | simp [mkL_length]) (by first | rfl | simp) | exact la_nil rfl | apply la_fn rfl | exact lend_same rfl rfl | exact lend_bor rfl rfl)), ?_⟩; (conv => whnf)
    (split <;> rename_i h3 <;> (try simp only [decide_eq_true_eq, decide_eq_false_iff_not, Bool.not_eq_true', Bool.not_eq_false', Bool.not_eq_true, Bool.not_eq_false, List.length_map] at h3) <;> conv => whnf)
    · have hr : rmF name i x.drives[i] = [rmStep i name] := by rw [rmF, if_pos (findI_nonneg.1 h3)]
      rw [hr] at hts
      have hmk : (accI (rmF name) 0 (x.drives.take (i + 1))).map DStep.enc = (accI (rmF name) 0 (x.drives.take i)).map DStep.enc ++ [(rmStep i name).enc] := by rw [hts, List.map_append]; rfl
      refine ⟨_, _, ⟨rfl, Nat.le_refl _, rfl, rfl⟩, ?_⟩; (conv => whnf)
      refine ⟨_, rfl, rfl, by simp, rfl, by simp [maxLen, chunk]; omega, by simp [chunk]; omega, ?_⟩; (conv => whnf)
      (refine ⟨((i + 1 : Nat) : Int), by rw [← wrap64_id] <;> omega, ?_⟩; conv => whnf)
      exact lg_back (i + 1) (by omega) (by (try dsimp only); omega) (weak_of (all_cons rfl (all_cons rfl (all_cons (eq_loc rfl (by rw [hts]; simp [chunk])) (all_cons rfl all_nil)))) (all_cons rfl (all_cons (eq_row rfl (by rw [hmk]; rfl)) all_nil)) rfl rfl)
    · have hr : rmF name i x.drives[i] = [] := by rw [rmF, if_neg (fun h => h3 (findI_nonneg.2 h))]
      rw [hr, List.append_nil] at hts
      (refine ⟨((i + 1 : Nat) : Int), by rw [← wrap64_id] <;> omega, ?_⟩; conv => whnf)
      exact lg_back (i + 1) (by omega) (by (try dsimp only); omega) (weak_of (all_cons rfl (all_cons rfl (all_cons (eq_loc rfl (by rw [hts])) (all_cons rfl all_nil)))) (all_cons rfl (all_cons (eq_row rfl (by rw [hts])) all_nil)) rfl rfl)
  · have : i = x.drives.length := by omega
    subst this
    rw [List.take_length]
    exact ⟨close_row rfl rfl (by simp) (by simp), trivial⟩
def removeR (x : DArray) (name : ByteArray) : List DStep := if (name.size : Int) ≤ 20000 ∧ arrayOk x = true ∧ objOk name = true then accI (rmF name) 0 x.drives else []
theorem removeStepsSpec_c (x : DArray) (hx : x.ok) (hu : ∀ d ∈ x.drives, usedN d.files ≤ 1000000000000) (name : ByteArray) (hn : name.size ≤ 4294967296) : Fun1 Try.prog 31 [.agg x.enc, .one (.lit (.string name))] (.one (.row true 5 ((removeR x name).map DStep.enc))) := by
  refine fun1_of_vc tb_ok mix (fn := Try.f31) Try.func31 rfl (by kernel_rfl) (by kernel_rfl) (by simp [Try.f31]) (by show AV.nb (4 + 1) _ = true; exact nb_map (n := 4) (fun y => DStep.enc_nbn 4 y) _) ?_
  (conv => whnf)
  (split <;> rename_i h1 <;> (try simp only [decide_eq_true_eq, decide_eq_false_iff_not, Bool.not_eq_true', Bool.not_eq_false', Bool.not_eq_true, Bool.not_eq_false, List.length_map] at h1) <;> conv => whnf)
  · exact ⟨close_row rfl rfl rfl (by rw [removeR, if_neg (by omega)]; rfl), trivial⟩
  refine ⟨_, _, arraySpec_c x hx hu, (by repeat' (first | exact lends_nil | exact lend_dead | apply lends_cons | apply lend_agg | apply lend_one | exact all2_nil | apply all2_cons | exact la_lit rfl | exact la_int (by first | rfl | omega) | exact la_row rfl rfl | exact la_loc rfl rfl rfl (by first | rfl | simp [mkL_length]) (by first | rfl | simp) | exact la_nil rfl | apply la_fn rfl | exact lend_same rfl rfl | exact lend_bor rfl rfl)), ?_⟩; (conv => whnf)
  (split <;> rename_i h2 <;> (try simp only [decide_eq_true_eq, decide_eq_false_iff_not, Bool.not_eq_true', Bool.not_eq_false', Bool.not_eq_true, Bool.not_eq_false, List.length_map] at h2) <;> conv => whnf)
  · exact ⟨close_row rfl rfl rfl (by rw [removeR, if_neg (by simp [h2])]; rfl), trivial⟩
  refine ⟨_, _, objectSpec_c name hn, (by repeat' (first | exact lends_nil | exact lend_dead | apply lends_cons | apply lend_agg | apply lend_one | exact all2_nil | apply all2_cons | exact la_lit rfl | exact la_int (by first | rfl | omega) | exact la_row rfl rfl | exact la_loc rfl rfl rfl (by first | rfl | simp [mkL_length]) (by first | rfl | simp) | exact la_nil rfl | apply la_fn rfl | exact lend_same rfl rfl | exact lend_bor rfl rfl)), ?_⟩; (conv => whnf)
  (split <;> rename_i h3 <;> (try simp only [decide_eq_true_eq, decide_eq_false_iff_not, Bool.not_eq_true', Bool.not_eq_false', Bool.not_eq_true, Bool.not_eq_false, List.length_map] at h3) <;> conv => whnf)
  · exact ⟨close_row rfl rfl rfl (by rw [removeR, if_neg (by simp [h3])]; rfl), trivial⟩
  refine ⟨_, _, removeSpec_c x hx name, (by repeat' (first | exact lends_nil | exact lend_dead | apply lends_cons | apply lend_agg | apply lend_one | exact all2_nil | apply all2_cons | exact la_lit rfl | exact la_int (by first | rfl | omega) | exact la_row rfl rfl | exact la_loc rfl rfl rfl (by first | rfl | simp [mkL_length]) (by first | rfl | simp) | exact la_nil rfl | apply la_fn rfl | exact lend_same rfl rfl | exact lend_bor rfl rfl)), ?_⟩; (conv => whnf)
  exact ⟨close_row rfl rfl rfl (by rw [removeR, if_pos ⟨by omega, h2, h3⟩]), trivial⟩
theorem removeStepsImpl_c (x : DArray) (hx : x.ok) (hu : ∀ d ∈ x.drives, usedN d.files ≤ 1000000000000) (name : ByteArray) (hn : name.size ≤ 4294967296) : Fun1 Try.prog 32 [.agg x.enc, .one (.lit (.string name))] (.one (.row true 5 ((removeR x name).map DStep.enc))) := by
  refine fun1_of_vc tb_ok mix (fn := Try.f32) Try.func32 rfl (by kernel_rfl) (by kernel_rfl) (by simp [Try.f32]) (by show AV.nb (4 + 1) _ = true; exact nb_map (n := 4) (fun y => DStep.enc_nbn 4 y) _) ?_
  (conv => whnf)
  refine ⟨_, _, isLong_c name, (by repeat' (first | exact lends_nil | exact lend_dead | apply lends_cons | apply lend_agg | apply lend_one | exact all2_nil | apply all2_cons | exact la_lit rfl | exact la_int (by first | rfl | omega) | exact la_row rfl rfl | exact la_loc rfl rfl rfl (by first | rfl | simp [mkL_length]) (by first | rfl | simp) | exact la_nil rfl | apply la_fn rfl | exact lend_same rfl rfl | exact lend_bor rfl rfl)), ?_⟩; (conv => whnf)
  (split <;> rename_i h1 <;> (try simp only [decide_eq_true_eq, decide_eq_false_iff_not, Bool.not_eq_true', Bool.not_eq_false', Bool.not_eq_true, Bool.not_eq_false, List.length_map] at h1) <;> conv => whnf)
  · exact ⟨close_nil (by rw [removeR, if_neg (by omega)]; rfl), trivial⟩
  refine ⟨_, _, arrayImpl_c x hx hu, (by repeat' (first | exact lends_nil | exact lend_dead | apply lends_cons | apply lend_agg | apply lend_one | exact all2_nil | apply all2_cons | exact la_lit rfl | exact la_int (by first | rfl | omega) | exact la_row rfl rfl | exact la_loc rfl rfl rfl (by first | rfl | simp [mkL_length]) (by first | rfl | simp) | exact la_nil rfl | apply la_fn rfl | exact lend_same rfl rfl | exact lend_bor rfl rfl)), ?_⟩; (conv => whnf)
  (split <;> rename_i h2 <;> (try simp only [decide_eq_true_eq, decide_eq_false_iff_not, Bool.not_eq_true', Bool.not_eq_false', Bool.not_eq_true, Bool.not_eq_false, List.length_map] at h2) <;> conv => whnf)
  · exact ⟨close_nil (by rw [removeR, if_neg (by simp [h2])]; rfl), trivial⟩
  refine ⟨_, _, objectImpl_c name hn, (by repeat' (first | exact lends_nil | exact lend_dead | apply lends_cons | apply lend_agg | apply lend_one | exact all2_nil | apply all2_cons | exact la_lit rfl | exact la_int (by first | rfl | omega) | exact la_row rfl rfl | exact la_loc rfl rfl rfl (by first | rfl | simp [mkL_length]) (by first | rfl | simp) | exact la_nil rfl | apply la_fn rfl | exact lend_same rfl rfl | exact lend_bor rfl rfl)), ?_⟩; (conv => whnf)
  (split <;> rename_i h3 <;> (try simp only [decide_eq_true_eq, decide_eq_false_iff_not, Bool.not_eq_true', Bool.not_eq_false', Bool.not_eq_true, Bool.not_eq_false, List.length_map] at h3) <;> conv => whnf)
  · exact ⟨close_nil (by rw [removeR, if_neg (by simp [h3])]; rfl), trivial⟩
  refine ⟨_, _, removeImpl_c x hx (arrayOk_len h2).2.1 name, (by repeat' (first | exact lends_nil | exact lend_dead | apply lends_cons | apply lend_agg | apply lend_one | exact all2_nil | apply all2_cons | exact la_lit rfl | exact la_int (by first | rfl | omega) | exact la_row rfl rfl | exact la_loc rfl rfl rfl (by first | rfl | simp [mkL_length]) (by first | rfl | simp) | exact la_nil rfl | apply la_fn rfl | exact lend_same rfl rfl | exact lend_bor rfl rfl)), ?_⟩; (conv => whnf)
  exact ⟨close_row rfl rfl rfl (by rw [removeR, if_pos ⟨by omega, h2, h3⟩]), trivial⟩
end Go.Proofs.Ytlijeincckbdaaa
namespace Go.Proofs.Ytlijeincckbdaaa
open Go.RowKit
set_option linter.unusedSimpArgs false
set_option linter.unusedVariables false
set_option maxRecDepth 100000
set_option maxHeartbeats 4000000
theorem indexStep_c (l : List DStep) (g : FuncId) (xs : List AV) (hxs : xs.all AV.isFree = true) (p : DStep → Bool) (hl : l.length ≤ 4294967296) (hg : ∀ d ∈ l, Fun1 Try.prog g [.agg d.enc, .one (.bptr xs 0)] (.one (.lit (.bool (p d))))) :
    Fun1 Try.prog 214 [.one (.row true 5 (l.map DStep.enc)), .one (.fn g [.bptr xs 0])] (.one (.lit (.int .i64 (match l.findIdx? p with | some i => (i : Int) | none => -1)))) := by
  refine fun1_of_vc tb_ok mix (fn := Try.f214) Try.func214 rfl (by kernel_rfl) (by kernel_rfl) (by simp [Try.f214]) (by rfl) ?_
  (conv => whnf)
  refine ⟨LG (fun i : Nat => i ≤ l.length ∧ ∀ j (h : j < l.length), j < i → p l[j] = false) (fun i => l.length - i) (fun i => AS.of [(0, .one (.row true 5 (l.map DStep.enc))), (1, .one (.fn g [.bptr xs 0])), (7, .one (.lit (.int .i64 (l.length : Nat)))), (8, .one (.lit (.int .i64 (i : Nat))))] []), lg_init 0 ⟨by omega, fun j h h' => by omega⟩ (weak_of (by repeat (first | refine all_cons (by first | rfl | exact eq_int rfl (by first | rfl | omega | (simp; done) | (simp; omega)) | exact eq_loc rfl (by first | rfl | omega | (simp; done) | (simp; omega)) | exact eq_bool rfl (by simp_all)) ?_ | exact all_nil)) (by repeat (first | refine all_cons (by first | rfl | exact eq_int rfl (by first | rfl | omega | (simp; done) | (simp; omega)) | exact eq_loc rfl (by first | rfl | omega | (simp; done) | (simp; omega)) | exact eq_bool rfl (by simp_all)) ?_ | exact all_nil)) rfl rfl), ?_⟩
  rintro σ k ⟨i, ⟨hi, hc⟩, rfl, rfl⟩
  refine ⟨_, Weak.refl _, ?_⟩
  (conv => whnf)
  (split <;> rename_i h <;> (try simp only [decide_eq_true_eq, decide_eq_false_iff_not, Bool.not_eq_true', Bool.not_eq_false', Bool.not_eq_true, Bool.not_eq_false, List.length_map] at h) <;> conv => whnf)
  · have hlt : i < l.length := by omega
    refine ⟨i, rfl, _, at_map hlt, ?_⟩; (conv => whnf)
    refine ⟨_, _, hg l[i] (List.getElem_mem hlt), lends_cons (lend_bor rfl rfl) (lends_cons (lend_one (la_bptr rfl rfl)) lends_nil), ?_⟩; (conv => whnf)
    (split <;> rename_i h2 <;> (try simp only [decide_eq_true_eq, decide_eq_false_iff_not, Bool.not_eq_true', Bool.not_eq_false', Bool.not_eq_true, Bool.not_eq_false, List.length_map] at h2) <;> conv => whnf)
    · have : l.findIdx? p = some i := by
        rw [List.findIdx?_eq_some_iff_getElem]
        exact ⟨hlt, h2, fun j hj => by have := hc j (by omega) hj; simp [this]⟩
      rw [this]
      exact (by repeat' (first | exact trivial | exact close_int rfl | exact close_str rfl | exact close_bool rfl | exact close_int (by omega) | exact close_row rfl rfl (by first | rfl | simp) (by first | rfl | simp) | exact close_nil (by first | rfl | simp) | exact rfl | apply And.intro | apply closeTs_cons rfl))
    · (refine ⟨((i + 1 : Nat) : Int), by rw [← wrap64_id] <;> omega, ?_⟩; conv => whnf)
      exact lg_back (i + 1) ⟨by omega, fun j hj hji => by
        by_cases e : j = i
        · subst e; exact h2
        · exact hc j hj (by omega)⟩ (by (try dsimp only); omega) (weak_of (by repeat (first | refine all_cons (by first | rfl | exact eq_int rfl (by first | rfl | omega | (simp; done) | (simp; omega)) | exact eq_loc rfl (by first | rfl | omega | (simp; done) | (simp; omega)) | exact eq_bool rfl (by simp_all)) ?_ | exact all_nil)) (by repeat (first | refine all_cons (by first | rfl | exact eq_int rfl (by first | rfl | omega | (simp; done) | (simp; omega)) | exact eq_loc rfl (by first | rfl | omega | (simp; done) | (simp; omega)) | exact eq_bool rfl (by simp_all)) ?_ | exact all_nil)) rfl rfl)
  · have : l.findIdx? p = none := by
      rw [List.findIdx?_eq_none_iff]
      intro x hx
      obtain ⟨j, hj, rfl⟩ := List.getElem_of_mem hx
      exact hc j hj (by omega)
    rw [this]
    exact (by repeat' (first | exact trivial | exact close_int rfl | exact close_str rfl | exact close_bool rfl | exact close_int (by omega) | exact close_row rfl rfl (by first | rfl | simp) (by first | rfl | simp) | exact close_nil (by first | rfl | simp) | exact rfl | apply And.intro | apply closeTs_cons rfl))
theorem containsStep_c (l : List DStep) (g : FuncId) (xs : List AV) (hxs : xs.all AV.isFree = true) (p : DStep → Bool) (hl : l.length ≤ 4294967296) (hg : ∀ d ∈ l, Fun1 Try.prog g [.agg d.enc, .one (.bptr xs 0)] (.one (.lit (.bool (p d))))) :
    Fun1 Try.prog 167 [.one (.row true 5 (l.map DStep.enc)), .one (.fn g [.bptr xs 0])] (.one (.lit (.bool (l.any p)))) := by
  refine fun1_of_vc tb_ok mix (fn := Try.f167) Try.func167 rfl (by kernel_rfl) (by kernel_rfl) (by simp [Try.f167]) (by rfl) ?_
  (conv => whnf)
  refine ⟨_, _, indexStep_c l g xs hxs p hl hg, lends_cons (lend_one (la_row rfl rfl)) (lends_cons (lend_one (la_fn rfl (all2_cons (la_bptr rfl rfl) all2_nil))) lends_nil), ?_⟩; (conv => whnf)
  cases hq : l.findIdx? p with
  | some i =>
    have : l.any p = true := by
      rw [List.findIdx?_eq_some_iff_getElem] at hq
      obtain ⟨h1, h2, _⟩ := hq
      exact List.any_eq_true.2 ⟨_, List.getElem_mem h1, h2⟩
    rw [this]
    exact ⟨close_bool (by simp), trivial⟩
  | none =>
    have : l.any p = false := by
      rw [List.findIdx?_eq_none_iff] at hq
      rw [List.any_eq_false]; exact fun x hx => by simp [hq x hx]
    rw [this]
    exact ⟨close_bool (by simp), trivial⟩
theorem sizeStep_c (l : List DStep) : Fun1 Try.prog 201 [.one (.row true 5 (l.map DStep.enc))] (.one (.lit (.int .i64 (l.length : Nat)))) := by
  refine fun1_of_vc tb_ok mix (fn := Try.f201) Try.func201 rfl (by kernel_rfl) (by kernel_rfl) (by simp [Try.f201]) (by rfl) ?_
  (conv => whnf)
  exact ⟨close_int (by simp), trivial⟩
theorem indexClient_c (l : List DClient) (g : FuncId) (xs : List AV) (hxs : xs.all AV.isFree = true) (p : DClient → Bool) (hl : l.length ≤ 4294967296) (hg : ∀ d ∈ l, Fun1 Try.prog g [.agg d.enc, .one (.bptr xs 0)] (.one (.lit (.bool (p d))))) :
    Fun1 Try.prog 199 [.one (.row true 5 (l.map DClient.enc)), .one (.fn g [.bptr xs 0])] (.one (.lit (.int .i64 (match l.findIdx? p with | some i => (i : Int) | none => -1)))) := by
  refine fun1_of_vc tb_ok mix (fn := Try.f199) Try.func199 rfl (by kernel_rfl) (by kernel_rfl) (by simp [Try.f199]) (by rfl) ?_
  (conv => whnf)
  refine ⟨LG (fun i : Nat => i ≤ l.length ∧ ∀ j (h : j < l.length), j < i → p l[j] = false) (fun i => l.length - i) (fun i => AS.of [(0, .one (.row true 5 (l.map DClient.enc))), (1, .one (.fn g [.bptr xs 0])), (7, .one (.lit (.int .i64 (l.length : Nat)))), (8, .one (.lit (.int .i64 (i : Nat))))] []), lg_init 0 ⟨by omega, fun j h h' => by omega⟩ (weak_of (by repeat (first | refine all_cons (by first | rfl | exact eq_int rfl (by first | rfl | omega | (simp; done) | (simp; omega)) | exact eq_loc rfl (by first | rfl | omega | (simp; done) | (simp; omega)) | exact eq_bool rfl (by simp_all)) ?_ | exact all_nil)) (by repeat (first | refine all_cons (by first | rfl | exact eq_int rfl (by first | rfl | omega | (simp; done) | (simp; omega)) | exact eq_loc rfl (by first | rfl | omega | (simp; done) | (simp; omega)) | exact eq_bool rfl (by simp_all)) ?_ | exact all_nil)) rfl rfl), ?_⟩
  rintro σ k ⟨i, ⟨hi, hc⟩, rfl, rfl⟩
  refine ⟨_, Weak.refl _, ?_⟩
  (conv => whnf)
  (split <;> rename_i h <;> (try simp only [decide_eq_true_eq, decide_eq_false_iff_not, Bool.not_eq_true', Bool.not_eq_false', Bool.not_eq_true, Bool.not_eq_false, List.length_map] at h) <;> conv => whnf)
  · have hlt : i < l.length := by omega
    refine ⟨i, rfl, _, at_map hlt, ?_⟩; (conv => whnf)
    refine ⟨_, _, hg l[i] (List.getElem_mem hlt), lends_cons (lend_bor rfl rfl) (lends_cons (lend_one (la_bptr rfl rfl)) lends_nil), ?_⟩; (conv => whnf)
    (split <;> rename_i h2 <;> (try simp only [decide_eq_true_eq, decide_eq_false_iff_not, Bool.not_eq_true', Bool.not_eq_false', Bool.not_eq_true, Bool.not_eq_false, List.length_map] at h2) <;> conv => whnf)
    · have : l.findIdx? p = some i := by
        rw [List.findIdx?_eq_some_iff_getElem]
        exact ⟨hlt, h2, fun j hj => by have := hc j (by omega) hj; simp [this]⟩
      rw [this]
      exact (by repeat' (first | exact trivial | exact close_int rfl | exact close_str rfl | exact close_bool rfl | exact close_int (by omega) | exact close_row rfl rfl (by first | rfl | simp) (by first | rfl | simp) | exact close_nil (by first | rfl | simp) | exact rfl | apply And.intro | apply closeTs_cons rfl))
    · (refine ⟨((i + 1 : Nat) : Int), by rw [← wrap64_id] <;> omega, ?_⟩; conv => whnf)
      exact lg_back (i + 1) ⟨by omega, fun j hj hji => by
        by_cases e : j = i
        · subst e; exact h2
        · exact hc j hj (by omega)⟩ (by (try dsimp only); omega) (weak_of (by repeat (first | refine all_cons (by first | rfl | exact eq_int rfl (by first | rfl | omega | (simp; done) | (simp; omega)) | exact eq_loc rfl (by first | rfl | omega | (simp; done) | (simp; omega)) | exact eq_bool rfl (by simp_all)) ?_ | exact all_nil)) (by repeat (first | refine all_cons (by first | rfl | exact eq_int rfl (by first | rfl | omega | (simp; done) | (simp; omega)) | exact eq_loc rfl (by first | rfl | omega | (simp; done) | (simp; omega)) | exact eq_bool rfl (by simp_all)) ?_ | exact all_nil)) rfl rfl)
  · have : l.findIdx? p = none := by
      rw [List.findIdx?_eq_none_iff]
      intro x hx
      obtain ⟨j, hj, rfl⟩ := List.getElem_of_mem hx
      exact hc j hj (by omega)
    rw [this]
    exact (by repeat' (first | exact trivial | exact close_int rfl | exact close_str rfl | exact close_bool rfl | exact close_int (by omega) | exact close_row rfl rfl (by first | rfl | simp) (by first | rfl | simp) | exact close_nil (by first | rfl | simp) | exact rfl | apply And.intro | apply closeTs_cons rfl))
theorem containsClient_c (l : List DClient) (g : FuncId) (xs : List AV) (hxs : xs.all AV.isFree = true) (p : DClient → Bool) (hl : l.length ≤ 4294967296) (hg : ∀ d ∈ l, Fun1 Try.prog g [.agg d.enc, .one (.bptr xs 0)] (.one (.lit (.bool (p d))))) :
    Fun1 Try.prog 135 [.one (.row true 5 (l.map DClient.enc)), .one (.fn g [.bptr xs 0])] (.one (.lit (.bool (l.any p)))) := by
  refine fun1_of_vc tb_ok mix (fn := Try.f135) Try.func135 rfl (by kernel_rfl) (by kernel_rfl) (by simp [Try.f135]) (by rfl) ?_
  (conv => whnf)
  refine ⟨_, _, indexClient_c l g xs hxs p hl hg, lends_cons (lend_one (la_row rfl rfl)) (lends_cons (lend_one (la_fn rfl (all2_cons (la_bptr rfl rfl) all2_nil))) lends_nil), ?_⟩; (conv => whnf)
  cases hq : l.findIdx? p with
  | some i =>
    have : l.any p = true := by
      rw [List.findIdx?_eq_some_iff_getElem] at hq
      obtain ⟨h1, h2, _⟩ := hq
      exact List.any_eq_true.2 ⟨_, List.getElem_mem h1, h2⟩
    rw [this]
    exact ⟨close_bool (by simp), trivial⟩
  | none =>
    have : l.any p = false := by
      rw [List.findIdx?_eq_none_iff] at hq
      rw [List.any_eq_false]; exact fun x hx => by simp [hq x hx]
    rw [this]
    exact ⟨close_bool (by simp), trivial⟩
theorem sizeClient_c (l : List DClient) : Fun1 Try.prog 134 [.one (.row true 5 (l.map DClient.enc))] (.one (.lit (.int .i64 (l.length : Nat)))) := by
  refine fun1_of_vc tb_ok mix (fn := Try.f134) Try.func134 rfl (by kernel_rfl) (by kernel_rfl) (by simp [Try.f134]) (by rfl) ?_
  (conv => whnf)
  exact ⟨close_int (by simp), trivial⟩
/-- A number within bounds. -/
def wi (a b c : Int) : Bool := decide (b ≤ a) && decide (a ≤ c)
theorem within_w (a b c : Int) : Fun1 Try.prog 93 [.one (.lit (.int .i64 a)), .one (.lit (.int .i64 b)), .one (.lit (.int .i64 c))] (.one (.lit (.bool (wi a b c)))) := within_c a b c
def cutOk (c : DCutting) : Bool := wi c.min 16 1000 && wi c.bits 0 12 && wi c.max c.min 2000
theorem cutImpl_c (c : DCutting) : Fun1 Try.prog 133 [.agg c.enc] (.one (.lit (.bool (cutOk c)))) := by
  refine fun1_of_vc tb_ok mix (fn := Try.f133) Try.func133 rfl (by kernel_rfl) (by kernel_rfl) (by simp [Try.f133]) (by rfl) ?_
  (conv => whnf)
  refine ⟨_, _, within_w c.min 16 1000, (by repeat' (first | exact lends_nil | exact lend_dead | apply lends_cons | apply lend_agg | apply lend_one | exact all2_nil | apply all2_cons | exact la_lit rfl | exact la_int (by first | rfl | omega) | exact la_row rfl rfl | exact la_loc rfl rfl rfl (by first | rfl | simp [mkL_length]) (by first | rfl | simp) | exact la_nil rfl | apply la_fn rfl | exact lend_same rfl rfl | exact lend_bor rfl rfl)), ?_⟩; (conv => whnf)
  (split <;> rename_i h1 <;> (try simp only [decide_eq_true_eq, decide_eq_false_iff_not, Bool.not_eq_true', Bool.not_eq_false', Bool.not_eq_true, Bool.not_eq_false, List.length_map] at h1) <;> conv => whnf)
  · refine ⟨_, _, within_w c.bits 0 12, (by repeat' (first | exact lends_nil | exact lend_dead | apply lends_cons | apply lend_agg | apply lend_one | exact all2_nil | apply all2_cons | exact la_lit rfl | exact la_int (by first | rfl | omega) | exact la_row rfl rfl | exact la_loc rfl rfl rfl (by first | rfl | simp [mkL_length]) (by first | rfl | simp) | exact la_nil rfl | apply la_fn rfl | exact lend_same rfl rfl | exact lend_bor rfl rfl)), ?_⟩; (conv => whnf)
    (split <;> rename_i h2 <;> (try simp only [decide_eq_true_eq, decide_eq_false_iff_not, Bool.not_eq_true', Bool.not_eq_false', Bool.not_eq_true, Bool.not_eq_false, List.length_map] at h2) <;> conv => whnf)
    · refine ⟨_, _, within_w c.max c.min 2000, (by repeat' (first | exact lends_nil | exact lend_dead | apply lends_cons | apply lend_agg | apply lend_one | exact all2_nil | apply all2_cons | exact la_lit rfl | exact la_int (by first | rfl | omega) | exact la_row rfl rfl | exact la_loc rfl rfl rfl (by first | rfl | simp [mkL_length]) (by first | rfl | simp) | exact la_nil rfl | apply la_fn rfl | exact lend_same rfl rfl | exact lend_bor rfl rfl)), ?_⟩; (conv => whnf)
      exact ⟨close_bool (by simp only [cutOk, h1, h2, Bool.true_and]), trivial⟩
    · exact ⟨close_bool (by simp only [cutOk, h1, h2, Bool.true_and, Bool.false_and]), trivial⟩
  · exact ⟨close_bool (by simp only [cutOk, h1, Bool.false_and]), trivial⟩
theorem cutSpec_c (c : DCutting) : Fun1 Try.prog 130 [.agg c.enc] (.one (.lit (.bool (cutOk c)))) := by
  refine fun1_of_vc tb_ok mix (fn := Try.f130) Try.func130 rfl (by kernel_rfl) (by kernel_rfl) (by simp [Try.f130]) (by rfl) ?_
  (conv => whnf)
  (repeat' (split <;> rename_i hb <;> (try simp only [decide_eq_true_eq, decide_eq_false_iff_not, Bool.not_eq_true', Bool.not_eq_false', Bool.not_eq_true, Bool.not_eq_false, List.length_map] at hb) <;> conv => whnf))
  all_goals exact ⟨close_bool (by simp [cutOk, wi, *]), trivial⟩
def idleOk (c : DClient) : Bool := decide (c.cmd = 0) && decide (c.name = ⟨#[]⟩) && decide (c.steps.length = 0) && decide (c.at_ = 0) && decide (c.until_ = 0)
theorem idleImpl_c (c : DClient) : Fun1 Try.prog 137 [.agg c.enc] (.one (.lit (.bool (idleOk c)))) := by
  refine fun1_of_vc tb_ok mix (fn := Try.f137) Try.func137 rfl (by kernel_rfl) (by kernel_rfl) (by simp [Try.f137]) (by rfl) ?_
  (conv => whnf)
  (repeat' (split <;> rename_i hb <;> (try simp only [decide_eq_true_eq, decide_eq_false_iff_not, Bool.not_eq_true', Bool.not_eq_false', Bool.not_eq_true, Bool.not_eq_false, List.length_map] at hb) <;> conv => whnf))
  all_goals exact ⟨close_bool (by simp_all [idleOk]), trivial⟩
theorem idleSpec_c (c : DClient) : Fun1 Try.prog 196 [.agg c.enc] (.one (.lit (.bool (idleOk c)))) := by
  refine fun1_of_vc tb_ok mix (fn := Try.f196) Try.func196 rfl (by kernel_rfl) (by kernel_rfl) (by simp [Try.f196]) (by rfl) ?_
  (conv => whnf)
  (repeat' (split <;> rename_i hb <;> (try simp only [decide_eq_true_eq, decide_eq_false_iff_not, Bool.not_eq_true', Bool.not_eq_false', Bool.not_eq_true, Bool.not_eq_false, List.length_map] at hb) <;> conv => whnf))
  all_goals exact ⟨close_bool (by simp_all [idleOk]), trivial⟩
theorem snapName_c (s : ByteArray) (hs : s.size ≤ 4294967296) : Fun1 Try.prog 200 [.one (.lit (.string s))] (.one (.lit (.bool (nameOk s 20)))) := by
  refine fun1_of_vc tb_ok mix (fn := Try.f200) Try.func200 rfl (by kernel_rfl) (by kernel_rfl) (by simp [Try.f200]) (by rfl) ?_
  (conv => whnf)
  refine ⟨_, _, isName_c s 20 hs, (by repeat' (first | exact lends_nil | exact lend_dead | apply lends_cons | apply lend_agg | apply lend_one | exact all2_nil | apply all2_cons | exact la_lit rfl | exact la_int (by first | rfl | omega) | exact la_row rfl rfl | exact la_loc rfl rfl rfl (by first | rfl | simp [mkL_length]) (by first | rfl | simp) | exact la_nil rfl | apply la_fn rfl | exact lend_same rfl rfl | exact lend_bor rfl rfl)), ?_⟩; (conv => whnf)
  exact (by repeat' (first | exact trivial | exact close_int rfl | exact close_str rfl | exact close_bool rfl | exact close_int (by omega) | exact close_row rfl rfl (by first | rfl | simp) (by first | rfl | simp) | exact close_nil (by first | rfl | simp) | exact rfl | apply And.intro | apply closeTs_cons rfl))
theorem nameOk_20 (s : ByteArray) : nameOk s 20 = (nameOk s 80 && decide ((s.size : Int) ≤ 20)) := by
  rw [Bool.eq_iff_iff]
  simp only [nameOk, Bool.and_eq_true, decide_eq_true_eq]
  constructor
  · rintro ⟨h1, h2, h3⟩; exact ⟨⟨h1, h2, by omega⟩, h3⟩
  · rintro ⟨⟨h1, h2, h3⟩, h4⟩; exact ⟨h1, h2, h4⟩
theorem l12Name_c (s : ByteArray) (hs : s.size ≤ 4294967296) : Fun1 Try.prog 197 [.one (.lit (.string s))] (.one (.lit (.bool (nameOk s 20)))) := by
  refine fun1_of_vc tb_ok mix (fn := Try.f197) Try.func197 rfl (by kernel_rfl) (by kernel_rfl) (by simp [Try.f197]) (by rfl) ?_
  (conv => whnf)
  refine ⟨_, _, nameSpec_c s hs, (by repeat' (first | exact lends_nil | exact lend_dead | apply lends_cons | apply lend_agg | apply lend_one | exact all2_nil | apply all2_cons | exact la_lit rfl | exact la_int (by first | rfl | omega) | exact la_row rfl rfl | exact la_loc rfl rfl rfl (by first | rfl | simp [mkL_length]) (by first | rfl | simp) | exact la_nil rfl | apply la_fn rfl | exact lend_same rfl rfl | exact lend_bor rfl rfl)), ?_⟩; (conv => whnf)
  (split <;> rename_i h <;> (try simp only [decide_eq_true_eq, decide_eq_false_iff_not, Bool.not_eq_true', Bool.not_eq_false', Bool.not_eq_true, Bool.not_eq_false, List.length_map] at h) <;> conv => whnf)
  · exact ⟨close_bool (by rw [nameOk_20, h]; rfl), trivial⟩
  · exact ⟨close_bool (by rw [nameOk_20, h]; rfl), trivial⟩
theorem isCmd_c (a : Int) : Fun1 Try.prog 146 [.one (.lit (.int .i64 a))] (.one (.lit (.bool (wi a 1 4)))) := by
  refine fun1_of_vc tb_ok mix (fn := Try.f146) Try.func146 rfl (by kernel_rfl) (by kernel_rfl) (by simp [Try.f146]) (by rfl) ?_
  (conv => whnf)
  refine ⟨_, _, within_w a 1 4, (by repeat' (first | exact lends_nil | exact lend_dead | apply lends_cons | apply lend_agg | apply lend_one | exact all2_nil | apply all2_cons | exact la_lit rfl | exact la_int (by first | rfl | omega) | exact la_row rfl rfl | exact la_loc rfl rfl rfl (by first | rfl | simp [mkL_length]) (by first | rfl | simp) | exact la_nil rfl | apply la_fn rfl | exact lend_same rfl rfl | exact lend_bor rfl rfl)), ?_⟩; (conv => whnf)
  exact (by repeat' (first | exact trivial | exact close_int rfl | exact close_str rfl | exact close_bool rfl | exact close_int (by omega) | exact close_row rfl rfl (by first | rfl | simp) (by first | rfl | simp) | exact close_nil (by first | rfl | simp) | exact rfl | apply And.intro | apply closeTs_cons rfl))
theorem l16Cmd_c (a : Int) : Fun1 Try.prog 143 [.one (.lit (.int .i64 a))] (.one (.lit (.bool (wi a 1 4)))) := by
  refine fun1_of_vc tb_ok mix (fn := Try.f143) Try.func143 rfl (by kernel_rfl) (by kernel_rfl) (by simp [Try.f143]) (by rfl) ?_
  (conv => whnf)
  (repeat' (split <;> rename_i hb <;> (try simp only [decide_eq_true_eq, decide_eq_false_iff_not, Bool.not_eq_true', Bool.not_eq_false', Bool.not_eq_true, Bool.not_eq_false, List.length_map] at hb) <;> conv => whnf))
  all_goals exact ⟨close_bool (by simp [wi, *]), trivial⟩
def stepsOk (n : Int) (l : List DStep) : Bool := l.all fun s => wi s.drive 0 (n - 1)
theorem l09StepsRight_c (x : DArray) (l : List DStep) (hl : l.length ≤ 4294967296) (hd : x.drives.length ≤ 4294967296) : Fun1 Try.prog 163 [.agg x.enc, .one (.row true 5 (l.map DStep.enc))] (.one (.lit (.bool (stepsOk x.drives.length l)))) := by
  refine fun1_of_vc tb_ok mix (fn := Try.f163) Try.func163 rfl (by kernel_rfl) (by kernel_rfl) (by simp [Try.f163]) (by rfl) ?_
  (conv => whnf)
  refine ⟨LG (fun i : Nat => i ≤ l.length ∧ ∀ j (h : j < l.length), j < i → wi l[j].drive 0 (x.drives.length - 1) = true) (fun i => l.length - i) (fun i => AS.of [(1, .one (.row true 5 (l.map DStep.enc))), (2, .one (.ptr 32 0)), (5, .one (.lit (.int .i64 (i : Nat))))] [(32, .var x.enc)]), lg_init 0 ⟨by omega, fun j h h' => by omega⟩ (weak_of (by repeat (first | refine all_cons (by first | rfl | exact eq_int rfl (by first | rfl | omega | (simp; done) | (simp; omega)) | exact eq_loc rfl (by first | rfl | omega | (simp; done) | (simp; omega)) | exact eq_bool rfl (by simp_all)) ?_ | exact all_nil)) (by repeat (first | refine all_cons (by first | rfl | exact eq_int rfl (by first | rfl | omega | (simp; done) | (simp; omega)) | exact eq_loc rfl (by first | rfl | omega | (simp; done) | (simp; omega)) | exact eq_bool rfl (by simp_all)) ?_ | exact all_nil)) rfl rfl), ?_⟩
  rintro σ k ⟨i, ⟨hi, hc⟩, rfl, rfl⟩
  refine ⟨_, Weak.refl _, ?_⟩
  (conv => whnf)
  (split <;> rename_i h <;> (try simp only [decide_eq_true_eq, decide_eq_false_iff_not, Bool.not_eq_true', Bool.not_eq_false', Bool.not_eq_true, Bool.not_eq_false, List.length_map] at h) <;> conv => whnf)
  · have hlt : i < l.length := by omega
    have bad : wi l[i].drive 0 (x.drives.length - 1) = false → stepsOk x.drives.length l = false := fun h => by
      rw [stepsOk, List.all_eq_false]; exact ⟨_, List.getElem_mem hlt, by simp [h]⟩
    refine ⟨i, rfl, _, at_map hlt, ?_⟩; (conv => whnf)
    (split <;> rename_i h2 <;> (try simp only [decide_eq_true_eq, decide_eq_false_iff_not, Bool.not_eq_true', Bool.not_eq_false', Bool.not_eq_true, Bool.not_eq_false, List.length_map] at h2) <;> conv => whnf)
    · exact ⟨close_bool (bad (by simp [wi]; omega)), trivial⟩
    refine ⟨i, rfl, _, at_map hlt, ?_⟩; (conv => whnf)
    (split <;> rename_i h3 <;> (try simp only [decide_eq_true_eq, decide_eq_false_iff_not, Bool.not_eq_true', Bool.not_eq_false', Bool.not_eq_true, Bool.not_eq_false, List.length_map] at h3) <;> conv => whnf)
    · exact ⟨close_bool (bad (by simp [wi]; omega)), trivial⟩
    (refine ⟨((i + 1 : Nat) : Int), by rw [← wrap64_id] <;> omega, ?_⟩; conv => whnf)
    exact lg_back (i + 1) ⟨by omega, fun j hj hji => by
      by_cases e : j = i
      · subst e; simp [wi]; omega
      · exact hc j hj (by omega)⟩ (by (try dsimp only); omega) (weak_of (by repeat (first | refine all_cons (by first | rfl | exact eq_int rfl (by first | rfl | omega | (simp; done) | (simp; omega)) | exact eq_loc rfl (by first | rfl | omega | (simp; done) | (simp; omega)) | exact eq_bool rfl (by simp_all)) ?_ | exact all_nil)) (by repeat (first | refine all_cons (by first | rfl | exact eq_int rfl (by first | rfl | omega | (simp; done) | (simp; omega)) | exact eq_loc rfl (by first | rfl | omega | (simp; done) | (simp; omega)) | exact eq_bool rfl (by simp_all)) ?_ | exact all_nil)) rfl rfl)
  · exact ⟨close_bool (by
      rw [stepsOk, List.all_eq_true]; intro s hs
      obtain ⟨j, hj, rfl⟩ := List.getElem_of_mem hs
      exact hc j hj (by omega)), trivial⟩
def named (c : DClient) : Bool := decide (c.cmd = 1) || decide (c.cmd = 2)
def atWork (n : Int) (c : DClient) : Bool := wi c.cmd 1 4 && ((named c && nameOk c.name 20) || (!named c && decide (c.name = ⟨#[]⟩))) && wi c.steps.length 1 400 && stepsOk n c.steps && wi c.at_ 0 (c.steps.length - 1) && wi c.until_ 0 2000000000
theorem atWork1_c (s : DStep) (n : Int) (hn : 0 ≤ n ∧ n ≤ 4294967296) : Fun1 Try.prog 202 [.agg s.enc, .one (.bptr [.lit (.int .i64 n)] 0)] (.one (.lit (.bool (!wi s.drive 0 (n - 1))))) := by
  refine fun1_of_vc tb_ok mix (fn := Try.f202) Try.func202 rfl (by kernel_rfl) (by kernel_rfl) (by simp [Try.f202]) (by rfl) ?_
  (conv => whnf)
  refine ⟨n - 1, wrap64_id (by omega) (by omega), ?_⟩; (conv => whnf)
  refine ⟨_, _, within_w s.drive 0 (n - 1), (by repeat' (first | exact lends_nil | exact lend_dead | apply lends_cons | apply lend_agg | apply lend_one | exact all2_nil | apply all2_cons | exact la_lit rfl | exact la_int (by first | rfl | omega) | exact la_row rfl rfl | exact la_loc rfl rfl rfl (by first | rfl | simp [mkL_length]) (by first | rfl | simp) | exact la_nil rfl | apply la_fn rfl | exact lend_same rfl rfl | exact lend_bor rfl rfl)), ?_⟩; (conv => whnf)
  exact (by repeat' (first | exact trivial | exact close_int rfl | exact close_str rfl | exact close_bool rfl | exact close_int (by omega) | exact close_row rfl rfl (by first | rfl | simp) (by first | rfl | simp) | exact close_nil (by first | rfl | simp) | exact rfl | apply And.intro | apply closeTs_cons rfl))
theorem any_nots {l : List DStep} {p : DStep → Bool} : (!l.any fun d => !p d) = l.all p := by
  induction l with
  | nil => rfl
  | cons x l ih => simp only [List.any_cons, List.all_cons, Bool.not_or, Bool.not_not, ih]
theorem any_notc {l : List DClient} {p q : DClient → Bool} : (!l.any fun d => !p d && !q d) = l.all fun d => p d || q d := by
  induction l with
  | nil => rfl
  | cons x l ih => simp only [List.any_cons, List.all_cons, Bool.not_or, Bool.not_and, Bool.not_not, ih]
end Go.Proofs.Ytlijeincckbdaaa
