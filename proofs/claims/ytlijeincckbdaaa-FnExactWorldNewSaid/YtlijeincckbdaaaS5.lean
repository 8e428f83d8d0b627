/- Contracts: right arrays, and files that are being written. -/
import Derived.Test.YtlijeincckbdaaaS4
import Derived.Test.YtlijeincckbdaaaP2
namespace Go.Proofs.Ytlijeincckbdaaa
open Go.RowKit
set_option linter.unusedSimpArgs false
set_option linter.unusedVariables false
set_option maxRecDepth 100000
set_option maxHeartbeats 4000000
def begins (s p : ByteArray) : Bool := decide (p.size ≤ s.size) && decide (s.extract 0 p.size = p)
theorem l12Begins_c (s p : ByteArray) : Fun1 Try.prog 178 [.one (.lit (.string s)), .one (.lit (.string p))] (.one (.lit (.bool (begins s p)))) := by
  refine fun1_of_vc tb_ok mix (fn := Try.f178) Try.func178 rfl (by kernel_rfl) (by kernel_rfl) (by simp [Try.f178]) (by rfl) ?_
  (conv => whnf)
  (split <;> rename_i h <;> (try simp only [decide_eq_true_eq, decide_eq_false_iff_not, Bool.not_eq_true', Bool.not_eq_false', Bool.not_eq_true, Bool.not_eq_false, List.length_map] at h) <;> conv => whnf)
  · refine ⟨by decide, by simp, by simp; omega, _, rfl, ?_⟩; (conv => whnf)
    exact ⟨close_bool (by simp [begins]; omega), trivial⟩
  · exact ⟨close_bool (by simp [begins]; omega), trivial⟩
theorem hasPrefix2_c (s p : ByteArray) : Fun1 Try.prog 218 [.one (.lit (.string s)), .one (.lit (.string p))] (.one (.lit (.bool (begins s p)))) := by
  refine fun1_of_vc tb_ok mix (fn := Try.f218) Try.func218 rfl (by kernel_rfl) (by kernel_rfl) (by simp [Try.f218]) (by rfl) ?_
  (conv => whnf)
  (split <;> rename_i h <;> (try simp only [decide_eq_true_eq, decide_eq_false_iff_not, Bool.not_eq_true', Bool.not_eq_false', Bool.not_eq_true, Bool.not_eq_false, List.length_map] at h) <;> conv => whnf)
  · refine ⟨by decide, by simp, by simp; omega, _, rfl, ?_⟩; (conv => whnf)
    exact ⟨close_bool (by simp [begins]; omega), trivial⟩
  · exact ⟨close_bool (by simp [begins]; omega), trivial⟩
theorem hasPrefix_c (s p : ByteArray) : Fun1 Try.prog 186 [.one (.lit (.string s)), .one (.lit (.string p))] (.one (.lit (.bool (begins s p)))) := by
  refine fun1_of_vc tb_ok mix (fn := Try.f186) Try.func186 rfl (by kernel_rfl) (by kernel_rfl) (by simp [Try.f186]) (by rfl) ?_
  (conv => whnf)
  refine ⟨_, _, hasPrefix2_c s p, (by repeat' (first | exact lends_nil | exact lend_dead | apply lends_cons | apply lend_agg | apply lend_one | exact all2_nil | apply all2_cons | exact la_lit rfl | exact la_int (by first | rfl | omega) | exact la_row rfl rfl | exact la_loc rfl rfl rfl (by first | rfl | simp [mkL_length]) (by first | rfl | simp) | exact la_nil rfl | apply la_fn rfl | exact lend_same rfl rfl | exact lend_bor rfl rfl)), ?_⟩; (conv => whnf)
  exact (by repeat' (first | exact trivial | exact close_int rfl | exact close_str rfl | exact close_bool rfl | exact close_int (by omega) | exact close_row rfl rfl (by first | rfl | simp) (by first | rfl | simp) | exact close_nil (by first | rfl | simp) | exact rfl | apply And.intro | apply closeTs_cons rfl))
theorem isTemp_c (s : ByteArray) : Fun1 Try.prog 183 [.one (.lit (.string s))] (.one (.lit (.bool (isTmp s)))) := by
  refine fun1_of_vc tb_ok mix (fn := Try.f183) Try.func183 rfl (by kernel_rfl) (by kernel_rfl) (by simp [Try.f183]) (by rfl) ?_
  (conv => whnf)
  refine ⟨_, _, hasPrefix_c s ⟨#[116, 45]⟩, (by repeat' (first | exact lends_nil | exact lend_dead | apply lends_cons | apply lend_agg | apply lend_one | exact all2_nil | apply all2_cons | exact la_lit rfl | exact la_int (by first | rfl | omega) | exact la_row rfl rfl | exact la_loc rfl rfl rfl (by first | rfl | simp [mkL_length]) (by first | rfl | simp) | exact la_nil rfl | apply la_fn rfl | exact lend_same rfl rfl | exact lend_bor rfl rfl)), ?_⟩; (conv => whnf)
  exact ⟨close_bool rfl, trivial⟩
theorem codeSpec_c (k m : Int) : Fun1 Try.prog 177 [.one (.lit (.int .i64 k)), .one (.lit (.int .i64 m))] (.one (.lit (.bool (codeOk k m)))) := by
  refine fun1_of_vc tb_ok mix (fn := Try.f177) Try.func177 rfl (by kernel_rfl) (by kernel_rfl) (by simp [Try.f177]) (by rfl) ?_
  (conv => whnf)
  (repeat' (split <;> rename_i hb <;> (try simp only [decide_eq_true_eq, decide_eq_false_iff_not, Bool.not_eq_true', Bool.not_eq_false', Bool.not_eq_true, Bool.not_eq_false, List.length_map] at hb) <;> conv => whnf))
  all_goals exact ⟨close_bool (by simp [codeOk, *]), trivial⟩
theorem codeImpl_c (k m : Int) : Fun1 Try.prog 179 [.one (.lit (.int .i64 k)), .one (.lit (.int .i64 m))] (.one (.lit (.bool (codeOk k m)))) := by
  refine fun1_of_vc tb_ok mix (fn := Try.f179) Try.func179 rfl (by kernel_rfl) (by kernel_rfl) (by simp [Try.f179]) (by rfl) ?_
  (conv => whnf)
  refine ⟨_, _, within_c k 1 8, (by repeat' (first | exact lends_nil | exact lend_dead | apply lends_cons | apply lend_agg | apply lend_one | exact all2_nil | apply all2_cons | exact la_lit rfl | exact la_int (by first | rfl | omega) | exact la_row rfl rfl | exact la_loc rfl rfl rfl (by first | rfl | simp [mkL_length]) (by first | rfl | simp) | exact la_nil rfl | apply la_fn rfl | exact lend_same rfl rfl | exact lend_bor rfl rfl)), ?_⟩; (conv => whnf)
  (split <;> rename_i h <;> (try simp only [decide_eq_true_eq, decide_eq_false_iff_not, Bool.not_eq_true', Bool.not_eq_false', Bool.not_eq_true, Bool.not_eq_false, List.length_map] at h) <;> conv => whnf)
  · refine ⟨_, _, within_c m 0 6, (by repeat' (first | exact lends_nil | exact lend_dead | apply lends_cons | apply lend_agg | apply lend_one | exact all2_nil | apply all2_cons | exact la_lit rfl | exact la_int (by first | rfl | omega) | exact la_row rfl rfl | exact la_loc rfl rfl rfl (by first | rfl | simp [mkL_length]) (by first | rfl | simp) | exact la_nil rfl | apply la_fn rfl | exact lend_same rfl rfl | exact lend_bor rfl rfl)), ?_⟩; (conv => whnf)
    exact ⟨close_bool (by simp at h; simp [codeOk, h]), trivial⟩
  · exact ⟨close_bool (by simp at h; simp [codeOk]; omega), trivial⟩
theorem arrayRight1_c (d : DDrive) (hx : d.ok) (hu : usedN d.files ≤ 1000000000000) : Fun1 Try.prog 181 [.agg d.enc] (.one (.lit (.bool (!driveOk d)))) := by
  refine fun1_of_vc tb_ok mix (fn := Try.f181) Try.func181 rfl (by kernel_rfl) (by kernel_rfl) (by simp [Try.f181]) (by rfl) ?_
  (conv => whnf)
  refine ⟨_, _, driveImpl_c d hx hu, (by repeat' (first | exact lends_nil | exact lend_dead | apply lends_cons | apply lend_agg | apply lend_one | exact all2_nil | apply all2_cons | exact la_lit rfl | exact la_int (by first | rfl | omega) | exact la_row rfl rfl | exact la_loc rfl rfl rfl (by first | rfl | simp [mkL_length]) (by first | rfl | simp) | exact la_nil rfl | apply la_fn rfl | exact lend_same rfl rfl | exact lend_bor rfl rfl)), ?_⟩; (conv => whnf)
  exact (by repeat' (first | exact trivial | exact close_int rfl | exact close_str rfl | exact close_bool rfl | exact close_int (by omega) | exact close_row rfl rfl (by first | rfl | simp) (by first | rfl | simp) | exact close_nil (by first | rfl | simp) | exact rfl | apply And.intro | apply closeTs_cons rfl))
theorem indexDrive_c (l : List DDrive) (g : FuncId) (p : DDrive → Bool) (hl : l.length ≤ 4294967296) (hg : ∀ d ∈ l, Fun1 Try.prog g [.agg d.enc] (.one (.lit (.bool (p d))))) :
    Fun1 Try.prog 217 [.one (.row true 2 (l.map DDrive.enc)), .one (.fn g [])] (.one (.lit (.int .i64 (match l.findIdx? p with | some i => (i : Int) | none => -1)))) := by
  refine fun1_of_vc tb_ok mix (fn := Try.f217) Try.func217 rfl (by kernel_rfl) (by kernel_rfl) (by simp [Try.f217]) (by rfl) ?_
  (conv => whnf)
  refine ⟨LG (fun i : Nat => i ≤ l.length ∧ ∀ j (h : j < l.length), j < i → p l[j] = false) (fun i => l.length - i) (fun i => AS.of [(0, .one (.row true 2 (l.map DDrive.enc))), (1, .one (.fn g [])), (7, .one (.lit (.int .i64 (l.length : Nat)))), (8, .one (.lit (.int .i64 (i : Nat))))] []), lg_init 0 ⟨by omega, fun j h h' => by omega⟩ (weak_of (by repeat (first | refine all_cons (by first | rfl | exact eq_int rfl (by first | rfl | omega | (simp; done) | (simp; omega)) | exact eq_loc rfl (by first | rfl | omega | (simp; done) | (simp; omega)) | exact eq_bool rfl (by simp_all)) ?_ | exact all_nil)) (by repeat (first | refine all_cons (by first | rfl | exact eq_int rfl (by first | rfl | omega | (simp; done) | (simp; omega)) | exact eq_loc rfl (by first | rfl | omega | (simp; done) | (simp; omega)) | exact eq_bool rfl (by simp_all)) ?_ | exact all_nil)) rfl rfl), ?_⟩
  rintro σ k ⟨i, ⟨hi, hc⟩, rfl, rfl⟩
  refine ⟨_, Weak.refl _, ?_⟩
  (conv => whnf)
  (split <;> rename_i h <;> (try simp only [decide_eq_true_eq, decide_eq_false_iff_not, Bool.not_eq_true', Bool.not_eq_false', Bool.not_eq_true, Bool.not_eq_false, List.length_map] at h) <;> conv => whnf)
  · have hlt : i < l.length := by omega
    refine ⟨i, rfl, _, at_map hlt, ?_⟩; (conv => whnf)
    refine ⟨_, _, hg l[i] (List.getElem_mem hlt), (by repeat' (first | exact lends_nil | exact lend_dead | apply lends_cons | apply lend_agg | apply lend_one | exact all2_nil | apply all2_cons | exact la_lit rfl | exact la_int (by first | rfl | omega) | exact la_row rfl rfl | exact la_loc rfl rfl rfl (by first | rfl | simp [mkL_length]) (by first | rfl | simp) | exact la_nil rfl | apply la_fn rfl | exact lend_same rfl rfl | exact lend_bor rfl rfl)), ?_⟩; (conv => whnf)
    (split <;> rename_i h2 <;> (try simp only [decide_eq_true_eq, decide_eq_false_iff_not, Bool.not_eq_true', Bool.not_eq_false', Bool.not_eq_true, Bool.not_eq_false, List.length_map] at h2) <;> conv => whnf)
    · have : l.findIdx? p = some i := by
        rw [List.findIdx?_eq_some_iff_getElem]
        exact ⟨hlt, h2, fun j hj => by have := hc j (by omega) hj; simp [this]⟩
      rw [this]
      exact (by repeat' (first | exact trivial | exact close_int rfl | exact close_str rfl | exact close_bool rfl | exact close_int (by omega) | exact close_row rfl rfl (by first | rfl | simp) (by first | rfl | simp) | exact close_nil (by first | rfl | simp) | exact rfl | apply And.intro | apply closeTs_cons rfl))
    · (refine ⟨((i + 1 : Nat) : Int), by rw [← wrap64_id] <;> omega, ?_⟩; conv => whnf)
      exact lg_back (i + 1) ⟨by omega, fun j hj hji => by
        by_cases e : j = i
        · subst e; exact h2
        · exact hc j hj (by omega)⟩ (by (try dsimp only); omega) (weak_of (by repeat (first | refine all_cons (by first | rfl | exact eq_int rfl (by first | rfl | omega | (simp; done) | (simp; omega)) | exact eq_loc rfl (by first | rfl | omega | (simp; done) | (simp; omega)) | exact eq_bool rfl (by simp_all)) ?_ | exact all_nil)) (by repeat (first | refine all_cons (by first | rfl | exact eq_int rfl (by first | rfl | omega | (simp; done) | (simp; omega)) | exact eq_loc rfl (by first | rfl | omega | (simp; done) | (simp; omega)) | exact eq_bool rfl (by simp_all)) ?_ | exact all_nil)) rfl rfl)
  · have : l.findIdx? p = none := by
      rw [List.findIdx?_eq_none_iff]
      intro x hx
      obtain ⟨j, hj, rfl⟩ := List.getElem_of_mem hx
      exact hc j hj (by omega)
    rw [this]
    exact (by repeat' (first | exact trivial | exact close_int rfl | exact close_str rfl | exact close_bool rfl | exact close_int (by omega) | exact close_row rfl rfl (by first | rfl | simp) (by first | rfl | simp) | exact close_nil (by first | rfl | simp) | exact rfl | apply And.intro | apply closeTs_cons rfl))
theorem containsDrive_c (l : List DDrive) (g : FuncId) (p : DDrive → Bool) (hl : l.length ≤ 4294967296) (hg : ∀ d ∈ l, Fun1 Try.prog g [.agg d.enc] (.one (.lit (.bool (p d))))) :
    Fun1 Try.prog 180 [.one (.row true 2 (l.map DDrive.enc)), .one (.fn g [])] (.one (.lit (.bool (l.any p)))) := by
  refine fun1_of_vc tb_ok mix (fn := Try.f180) Try.func180 rfl (by kernel_rfl) (by kernel_rfl) (by simp [Try.f180]) (by rfl) ?_
  (conv => whnf)
  refine ⟨_, _, indexDrive_c l g p hl hg, (by repeat' (first | exact lends_nil | exact lend_dead | apply lends_cons | apply lend_agg | apply lend_one | exact all2_nil | apply all2_cons | exact la_lit rfl | exact la_int (by first | rfl | omega) | exact la_row rfl rfl | exact la_loc rfl rfl rfl (by first | rfl | simp [mkL_length]) (by first | rfl | simp) | exact la_nil rfl | apply la_fn rfl | exact lend_same rfl rfl | exact lend_bor rfl rfl)), ?_⟩; (conv => whnf)
  cases hq : l.findIdx? p with
  | some i =>
    have : l.any p = true := by
      rw [List.findIdx?_eq_some_iff_getElem] at hq
      obtain ⟨h1, h2, _⟩ := hq
      exact List.any_eq_true.2 ⟨_, List.getElem_mem h1, h2⟩
    rw [this]
    exact ⟨close_bool (by simp), trivial⟩
  | none =>
    have : l.any p = false := by
      rw [List.findIdx?_eq_none_iff] at hq
      rw [List.any_eq_false]; exact fun x hx => by simp [hq x hx]
    rw [this]
    exact ⟨close_bool (by simp), trivial⟩
theorem sizeDrive_c (l : List DDrive) : Fun1 Try.prog 139 [.one (.row true 2 (l.map DDrive.enc))] (.one (.lit (.int .i64 (l.length : Nat)))) := by
  refine fun1_of_vc tb_ok mix (fn := Try.f139) Try.func139 rfl (by kernel_rfl) (by kernel_rfl) (by simp [Try.f139]) (by rfl) ?_
  (conv => whnf)
  exact ⟨close_int (by simp), trivial⟩
theorem any_not {l : List DDrive} : (!l.any fun d => !driveOk d) = l.all driveOk := by
  induction l with
  | nil => rfl
  | cons x l ih => simp only [List.any_cons, List.all_cons, Bool.not_or, Bool.not_not, ih]
theorem arrayImpl_c (x : DArray) (hx : x.ok) (hu : ∀ d ∈ x.drives, usedN d.files ≤ 1000000000000) : Fun1 Try.prog 102 [.agg x.enc] (.one (.lit (.bool (arrayOk x)))) := by
  obtain ⟨hk, hm, hl, hd⟩ := hx
  unfold inI at hk hm
  refine fun1_of_vc tb_ok mix (fn := Try.f102) Try.func102 rfl (by kernel_rfl) (by kernel_rfl) (by simp [Try.f102]) (by rfl) ?_
  (conv => whnf)
  refine ⟨_, _, codeImpl_c x.k x.m, (by repeat' (first | exact lends_nil | exact lend_dead | apply lends_cons | apply lend_agg | apply lend_one | exact all2_nil | apply all2_cons | exact la_lit rfl | exact la_int (by first | rfl | omega) | exact la_row rfl rfl | exact la_loc rfl rfl rfl (by first | rfl | simp [mkL_length]) (by first | rfl | simp) | exact la_nil rfl | apply la_fn rfl | exact lend_same rfl rfl | exact lend_bor rfl rfl)), ?_⟩; (conv => whnf)
  (split <;> rename_i h <;> (try simp only [decide_eq_true_eq, decide_eq_false_iff_not, Bool.not_eq_true', Bool.not_eq_false', Bool.not_eq_true, Bool.not_eq_false, List.length_map] at h) <;> conv => whnf)
  · have hko : 1 ≤ x.k ∧ x.k ≤ 8 ∧ 0 ≤ x.m ∧ x.m ≤ 6 := by simp only [codeOk, Bool.and_eq_true, decide_eq_true_eq] at h; omega
    refine ⟨_, _, sizeDrive_c x.drives, (by repeat' (first | exact lends_nil | exact lend_dead | apply lends_cons | apply lend_agg | apply lend_one | exact all2_nil | apply all2_cons | exact la_lit rfl | exact la_int (by first | rfl | omega) | exact la_row rfl rfl | exact la_loc rfl rfl rfl (by first | rfl | simp [mkL_length]) (by first | rfl | simp) | exact la_nil rfl | apply la_fn rfl | exact lend_same rfl rfl | exact lend_bor rfl rfl)), ?_⟩; (conv => whnf)
    refine ⟨x.k + x.m, wrap64_id (by omega) (by omega), ?_⟩; (conv => whnf)
    (split <;> rename_i h2 <;> (try simp only [decide_eq_true_eq, decide_eq_false_iff_not, Bool.not_eq_true', Bool.not_eq_false', Bool.not_eq_true, Bool.not_eq_false, List.length_map] at h2) <;> conv => whnf)
    · refine ⟨_, _, containsDrive_c x.drives 181 (fun d => !driveOk d) hl (fun d hm => arrayRight1_c d (hd d hm) (hu d hm)), (by repeat' (first | exact lends_nil | exact lend_dead | apply lends_cons | apply lend_agg | apply lend_one | exact all2_nil | apply all2_cons | exact la_lit rfl | exact la_int (by first | rfl | omega) | exact la_row rfl rfl | exact la_loc rfl rfl rfl (by first | rfl | simp [mkL_length]) (by first | rfl | simp) | exact la_nil rfl | apply la_fn rfl | exact lend_same rfl rfl | exact lend_bor rfl rfl)), ?_⟩; (conv => whnf)
      exact ⟨close_bool (by simp only [arrayOk, h, h2, decide_true, Bool.true_and, any_not]), trivial⟩
    · exact ⟨close_bool (by simp [arrayOk, h2]), trivial⟩
  · exact ⟨close_bool (by simp [arrayOk, h]), trivial⟩
theorem arraySpec_c (x : DArray) (hx : x.ok) (hu : ∀ d ∈ x.drives, usedN d.files ≤ 1000000000000) : Fun1 Try.prog 99 [.agg x.enc] (.one (.lit (.bool (arrayOk x)))) := by
  obtain ⟨hk, hm, hl, hd⟩ := hx
  unfold inI at hk hm
  refine fun1_of_vc tb_ok mix (fn := Try.f99) Try.func99 rfl (by kernel_rfl) (by kernel_rfl) (by simp [Try.f99]) (by rfl) ?_
  (conv => whnf)
  refine ⟨_, _, codeSpec_c x.k x.m, (by repeat' (first | exact lends_nil | exact lend_dead | apply lends_cons | apply lend_agg | apply lend_one | exact all2_nil | apply all2_cons | exact la_lit rfl | exact la_int (by first | rfl | omega) | exact la_row rfl rfl | exact la_loc rfl rfl rfl (by first | rfl | simp [mkL_length]) (by first | rfl | simp) | exact la_nil rfl | apply la_fn rfl | exact lend_same rfl rfl | exact lend_bor rfl rfl)), ?_⟩; (conv => whnf)
  (split <;> rename_i h <;> (try simp only [decide_eq_true_eq, decide_eq_false_iff_not, Bool.not_eq_true', Bool.not_eq_false', Bool.not_eq_true, Bool.not_eq_false, List.length_map] at h) <;> conv => whnf)
  · exact ⟨close_bool (by simp [arrayOk, h]), trivial⟩
  have hko : 1 ≤ x.k ∧ x.k ≤ 8 ∧ 0 ≤ x.m ∧ x.m ≤ 6 := by simp only [codeOk, Bool.and_eq_true, decide_eq_true_eq] at h; omega
  refine ⟨x.k + x.m, wrap64_id (by omega) (by omega), ?_⟩; (conv => whnf)
  (split <;> rename_i h2 <;> (try simp only [decide_eq_true_eq, decide_eq_false_iff_not, Bool.not_eq_true', Bool.not_eq_false', Bool.not_eq_true, Bool.not_eq_false, List.length_map] at h2) <;> conv => whnf)
  · exact ⟨close_bool (by simp [arrayOk, h2]), trivial⟩
  have h2' : (x.drives.length : Int) = x.k + x.m := by first | exact h2 | simpa using h2
  refine ⟨LG (fun i : Nat => i ≤ x.drives.length ∧ ∀ j (h : j < x.drives.length), j < i → driveOk x.drives[j] = true) (fun i => x.drives.length - i) (fun i => AS.of [(1, .one (.ptr 16 0)), (3, .one (.lit (.int .i64 (i : Nat))))] [(16, .var x.enc)]), lg_init 0 ⟨by omega, fun j h h' => by omega⟩ (weak_of (by repeat (first | refine all_cons (by first | rfl | exact eq_int rfl (by first | rfl | omega | (simp; done) | (simp; omega)) | exact eq_loc rfl (by first | rfl | omega | (simp; done) | (simp; omega)) | exact eq_bool rfl (by simp_all)) ?_ | exact all_nil)) (by repeat (first | refine all_cons (by first | rfl | exact eq_int rfl (by first | rfl | omega | (simp; done) | (simp; omega)) | exact eq_loc rfl (by first | rfl | omega | (simp; done) | (simp; omega)) | exact eq_bool rfl (by simp_all)) ?_ | exact all_nil)) rfl rfl), ?_⟩
  rintro σ k ⟨i, ⟨hi, hc⟩, rfl, rfl⟩
  refine ⟨_, Weak.refl _, ?_⟩
  (conv => whnf)
  (split <;> rename_i h3 <;> (try simp only [decide_eq_true_eq, decide_eq_false_iff_not, Bool.not_eq_true', Bool.not_eq_false', Bool.not_eq_true, Bool.not_eq_false, List.length_map] at h3) <;> conv => whnf)
  · have hlt : i < x.drives.length := by omega
    refine ⟨i, rfl, _, at_map hlt, ?_⟩; (conv => whnf)
    refine ⟨_, _, driveSpec_c x.drives[i] (hd _ (List.getElem_mem hlt)) (hu _ (List.getElem_mem hlt)), (by repeat' (first | exact lends_nil | exact lend_dead | apply lends_cons | apply lend_agg | apply lend_one | exact all2_nil | apply all2_cons | exact la_lit rfl | exact la_int (by first | rfl | omega) | exact la_row rfl rfl | exact la_loc rfl rfl rfl (by first | rfl | simp [mkL_length]) (by first | rfl | simp) | exact la_nil rfl | apply la_fn rfl | exact lend_same rfl rfl | exact lend_bor rfl rfl)), ?_⟩; (conv => whnf)
    (split <;> rename_i h4 <;> (try simp only [decide_eq_true_eq, decide_eq_false_iff_not, Bool.not_eq_true', Bool.not_eq_false', Bool.not_eq_true, Bool.not_eq_false, List.length_map] at h4) <;> conv => whnf)
    · exact ⟨close_bool (by
        have : x.drives.all driveOk = false := by rw [List.all_eq_false]; exact ⟨_, List.getElem_mem hlt, by simp [h4]⟩
        simp [arrayOk, this]), trivial⟩
    · (refine ⟨((i + 1 : Nat) : Int), by rw [← wrap64_id] <;> omega, ?_⟩; conv => whnf)
      exact lg_back (i + 1) ⟨by omega, fun j hj hji => by
        by_cases e : j = i
        · subst e; exact h4
        · exact hc j hj (by omega)⟩ (by (try dsimp only); omega) (weak_of (by repeat (first | refine all_cons (by first | rfl | exact eq_int rfl (by first | rfl | omega | (simp; done) | (simp; omega)) | exact eq_loc rfl (by first | rfl | omega | (simp; done) | (simp; omega)) | exact eq_bool rfl (by simp_all)) ?_ | exact all_nil)) (by repeat (first | refine all_cons (by first | rfl | exact eq_int rfl (by first | rfl | omega | (simp; done) | (simp; omega)) | exact eq_loc rfl (by first | rfl | omega | (simp; done) | (simp; omega)) | exact eq_bool rfl (by simp_all)) ?_ | exact all_nil)) rfl rfl)
  · exact ⟨close_bool (by
      have : x.drives.all driveOk = true := by
        rw [List.all_eq_true]; intro d hd
        obtain ⟨j, hj, rfl⟩ := List.getElem_of_mem hd
        exact hc j hj (by omega)
      simp [arrayOk, this, h, h2']), trivial⟩
end Go.Proofs.Ytlijeincckbdaaa
