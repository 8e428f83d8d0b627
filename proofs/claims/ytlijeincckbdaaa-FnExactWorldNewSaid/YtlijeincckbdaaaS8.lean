/- Contracts: right worlds. -/
import Derived.Test.YtlijeincckbdaaaS7
namespace Go.Proofs.Ytlijeincckbdaaa
open Go.RowKit
set_option linter.unusedSimpArgs false
set_option linter.unusedVariables false
set_option maxRecDepth 100000
set_option maxHeartbeats 4000000
theorem indexStep_c (l : List DStep) (g : FuncId) (xs : List AV) (hxs : xs.all AV.isFree = true) (p : DStep → Bool) (hl : l.length ≤ 4294967296) (hg : ∀ d ∈ l, Fun1 Try.prog g [.agg d.enc, .one (.bptr xs 0)] (.one (.lit (.bool (p d))))) :
    Fun1 Try.prog 214 [.one (.row true 5 (l.map DStep.enc)), .one (.fn g [.bptr xs 0])] (.one (.lit (.int .i64 (match l.findIdx? p with | some i => (i : Int) | none => -1)))) := by
  refine fun1_of_vc tb_ok mix (fn := Try.f214) Try.func214 rfl (by kernel_rfl) (by kernel_rfl) (by simp [Try.f214]) (by rfl) ?_
  (conv => whnf)
  refine ⟨LG (fun i : Nat => i ≤ l.length ∧ ∀ j (h : j < l.length), j < i → p l[j] = false) (fun i => l.length - i) (fun i => AS.of [(0, .one (.row true 5 (l.map DStep.enc))), (1, .one (.fn g [.bptr xs 0])), (7, .one (.lit (.int .i64 (l.length : Nat)))), (8, .one (.lit (.int .i64 (i : Nat))))] []), lg_init 0 ⟨by omega, fun j h h' => by omega⟩ (weak_of (by repeat (first | refine all_cons (by first | rfl | exact eq_int rfl (by first | rfl | omega | (simp; done) | (simp; omega)) | exact eq_loc rfl (by first | rfl | omega | (simp; done) | (simp; omega)) | exact eq_bool rfl (by simp_all)) ?_ | exact all_nil)) (by repeat (first | refine all_cons (by first | rfl | exact eq_int rfl (by first | rfl | omega | (simp; done) | (simp; omega)) | exact eq_loc rfl (by first | rfl | omega | (simp; done) | (simp; omega)) | exact eq_bool rfl (by simp_all)) ?_ | exact all_nil)) rfl rfl), ?_⟩
  rintro σ k ⟨i, ⟨hi, hc⟩, rfl, rfl⟩
  refine ⟨_, Weak.refl _, ?_⟩
  (conv => whnf)
  (split <;> rename_i h <;> (try simp only [decide_eq_true_eq, decide_eq_false_iff_not, Bool.not_eq_true', Bool.not_eq_false', Bool.not_eq_true, Bool.not_eq_false, List.length_map] at h) <;> conv => whnf)
  · have hlt : i < l.length := by omega
    refine ⟨i, rfl, _, at_map hlt, ?_⟩; (conv => whnf)
    refine ⟨_, _, hg l[i] (List.getElem_mem hlt), lends_cons (lend_bor rfl rfl) (lends_cons (lend_one (la_bptr rfl rfl)) lends_nil), ?_⟩; (conv => whnf)
    (split <;> rename_i h2 <;> (try simp only [decide_eq_true_eq, decide_eq_false_iff_not, Bool.not_eq_true', Bool.not_eq_false', Bool.not_eq_true, Bool.not_eq_false, List.length_map] at h2) <;> conv => whnf)
    · have : l.findIdx? p = some i := by
        rw [List.findIdx?_eq_some_iff_getElem]
        exact ⟨hlt, h2, fun j hj => by have := hc j (by omega) hj; simp [this]⟩
      rw [this]
      exact (by repeat' (first | exact trivial | exact close_int rfl | exact close_str rfl | exact close_bool rfl | exact close_int (by omega) | exact close_row rfl rfl (by first | rfl | simp) (by first | rfl | simp) | exact close_nil (by first | rfl | simp) | exact rfl | apply And.intro | apply closeTs_cons rfl))
    · (refine ⟨((i + 1 : Nat) : Int), by rw [← wrap64_id] <;> omega, ?_⟩; conv => whnf)
      exact lg_back (i + 1) ⟨by omega, fun j hj hji => by
        by_cases e : j = i
        · subst e; exact h2
        · exact hc j hj (by omega)⟩ (by (try dsimp only); omega) (weak_of (by repeat (first | refine all_cons (by first | rfl | exact eq_int rfl (by first | rfl | omega | (simp; done) | (simp; omega)) | exact eq_loc rfl (by first | rfl | omega | (simp; done) | (simp; omega)) | exact eq_bool rfl (by simp_all)) ?_ | exact all_nil)) (by repeat (first | refine all_cons (by first | rfl | exact eq_int rfl (by first | rfl | omega | (simp; done) | (simp; omega)) | exact eq_loc rfl (by first | rfl | omega | (simp; done) | (simp; omega)) | exact eq_bool rfl (by simp_all)) ?_ | exact all_nil)) rfl rfl)
  · have : l.findIdx? p = none := by
      rw [List.findIdx?_eq_none_iff]
      intro x hx
      obtain ⟨j, hj, rfl⟩ := List.getElem_of_mem hx
      exact hc j hj (by omega)
    rw [this]
    exact (by repeat' (first | exact trivial | exact close_int rfl | exact close_str rfl | exact close_bool rfl | exact close_int (by omega) | exact close_row rfl rfl (by first | rfl | simp) (by first | rfl | simp) | exact close_nil (by first | rfl | simp) | exact rfl | apply And.intro | apply closeTs_cons rfl))
theorem containsStep_c (l : List DStep) (g : FuncId) (xs : List AV) (hxs : xs.all AV.isFree = true) (p : DStep → Bool) (hl : l.length ≤ 4294967296) (hg : ∀ d ∈ l, Fun1 Try.prog g [.agg d.enc, .one (.bptr xs 0)] (.one (.lit (.bool (p d))))) :
    Fun1 Try.prog 167 [.one (.row true 5 (l.map DStep.enc)), .one (.fn g [.bptr xs 0])] (.one (.lit (.bool (l.any p)))) := by
  refine fun1_of_vc tb_ok mix (fn := Try.f167) Try.func167 rfl (by kernel_rfl) (by kernel_rfl) (by simp [Try.f167]) (by rfl) ?_
  (conv => whnf)
  refine ⟨_, _, indexStep_c l g xs hxs p hl hg, lends_cons (lend_one (la_row rfl rfl)) (lends_cons (lend_one (la_fn rfl (all2_cons (la_bptr rfl rfl) all2_nil))) lends_nil), ?_⟩; (conv => whnf)
  cases hq : l.findIdx? p with
  | some i =>
    have : l.any p = true := by
      rw [List.findIdx?_eq_some_iff_getElem] at hq
      obtain ⟨h1, h2, _⟩ := hq
      exact List.any_eq_true.2 ⟨_, List.getElem_mem h1, h2⟩
    rw [this]
    exact ⟨close_bool (by simp), trivial⟩
  | none =>
    have : l.any p = false := by
      rw [List.findIdx?_eq_none_iff] at hq
      rw [List.any_eq_false]; exact fun x hx => by simp [hq x hx]
    rw [this]
    exact ⟨close_bool (by simp), trivial⟩
theorem sizeStep_c (l : List DStep) : Fun1 Try.prog 201 [.one (.row true 5 (l.map DStep.enc))] (.one (.lit (.int .i64 (l.length : Nat)))) := by
  refine fun1_of_vc tb_ok mix (fn := Try.f201) Try.func201 rfl (by kernel_rfl) (by kernel_rfl) (by simp [Try.f201]) (by rfl) ?_
  (conv => whnf)
  exact ⟨close_int (by simp), trivial⟩
theorem indexClient_c (l : List DClient) (g : FuncId) (xs : List AV) (hxs : xs.all AV.isFree = true) (p : DClient → Bool) (hl : l.length ≤ 4294967296) (hg : ∀ d ∈ l, Fun1 Try.prog g [.agg d.enc, .one (.bptr xs 0)] (.one (.lit (.bool (p d))))) :
    Fun1 Try.prog 199 [.one (.row true 5 (l.map DClient.enc)), .one (.fn g [.bptr xs 0])] (.one (.lit (.int .i64 (match l.findIdx? p with | some i => (i : Int) | none => -1)))) := by
  refine fun1_of_vc tb_ok mix (fn := Try.f199) Try.func199 rfl (by kernel_rfl) (by kernel_rfl) (by simp [Try.f199]) (by rfl) ?_
  (conv => whnf)
  refine ⟨LG (fun i : Nat => i ≤ l.length ∧ ∀ j (h : j < l.length), j < i → p l[j] = false) (fun i => l.length - i) (fun i => AS.of [(0, .one (.row true 5 (l.map DClient.enc))), (1, .one (.fn g [.bptr xs 0])), (7, .one (.lit (.int .i64 (l.length : Nat)))), (8, .one (.lit (.int .i64 (i : Nat))))] []), lg_init 0 ⟨by omega, fun j h h' => by omega⟩ (weak_of (by repeat (first | refine all_cons (by first | rfl | exact eq_int rfl (by first | rfl | omega | (simp; done) | (simp; omega)) | exact eq_loc rfl (by first | rfl | omega | (simp; done) | (simp; omega)) | exact eq_bool rfl (by simp_all)) ?_ | exact all_nil)) (by repeat (first | refine all_cons (by first | rfl | exact eq_int rfl (by first | rfl | omega | (simp; done) | (simp; omega)) | exact eq_loc rfl (by first | rfl | omega | (simp; done) | (simp; omega)) | exact eq_bool rfl (by simp_all)) ?_ | exact all_nil)) rfl rfl), ?_⟩
  rintro σ k ⟨i, ⟨hi, hc⟩, rfl, rfl⟩
  refine ⟨_, Weak.refl _, ?_⟩
  (conv => whnf)
  (split <;> rename_i h <;> (try simp only [decide_eq_true_eq, decide_eq_false_iff_not, Bool.not_eq_true', Bool.not_eq_false', Bool.not_eq_true, Bool.not_eq_false, List.length_map] at h) <;> conv => whnf)
  · have hlt : i < l.length := by omega
    refine ⟨i, rfl, _, at_map hlt, ?_⟩; (conv => whnf)
    refine ⟨_, _, hg l[i] (List.getElem_mem hlt), lends_cons (lend_bor rfl rfl) (lends_cons (lend_one (la_bptr rfl rfl)) lends_nil), ?_⟩; (conv => whnf)
    (split <;> rename_i h2 <;> (try simp only [decide_eq_true_eq, decide_eq_false_iff_not, Bool.not_eq_true', Bool.not_eq_false', Bool.not_eq_true, Bool.not_eq_false, List.length_map] at h2) <;> conv => whnf)
    · have : l.findIdx? p = some i := by
        rw [List.findIdx?_eq_some_iff_getElem]
        exact ⟨hlt, h2, fun j hj => by have := hc j (by omega) hj; simp [this]⟩
      rw [this]
      exact (by repeat' (first | exact trivial | exact close_int rfl | exact close_str rfl | exact close_bool rfl | exact close_int (by omega) | exact close_row rfl rfl (by first | rfl | simp) (by first | rfl | simp) | exact close_nil (by first | rfl | simp) | exact rfl | apply And.intro | apply closeTs_cons rfl))
    · (refine ⟨((i + 1 : Nat) : Int), by rw [← wrap64_id] <;> omega, ?_⟩; conv => whnf)
      exact lg_back (i + 1) ⟨by omega, fun j hj hji => by
        by_cases e : j = i
        · subst e; exact h2
        · exact hc j hj (by omega)⟩ (by (try dsimp only); omega) (weak_of (by repeat (first | refine all_cons (by first | rfl | exact eq_int rfl (by first | rfl | omega | (simp; done) | (simp; omega)) | exact eq_loc rfl (by first | rfl | omega | (simp; done) | (simp; omega)) | exact eq_bool rfl (by simp_all)) ?_ | exact all_nil)) (by repeat (first | refine all_cons (by first | rfl | exact eq_int rfl (by first | rfl | omega | (simp; done) | (simp; omega)) | exact eq_loc rfl (by first | rfl | omega | (simp; done) | (simp; omega)) | exact eq_bool rfl (by simp_all)) ?_ | exact all_nil)) rfl rfl)
  · have : l.findIdx? p = none := by
      rw [List.findIdx?_eq_none_iff]
      intro x hx
      obtain ⟨j, hj, rfl⟩ := List.getElem_of_mem hx
      exact hc j hj (by omega)
    rw [this]
    exact (by repeat' (first | exact trivial | exact close_int rfl | exact close_str rfl | exact close_bool rfl | exact close_int (by omega) | exact close_row rfl rfl (by first | rfl | simp) (by first | rfl | simp) | exact close_nil (by first | rfl | simp) | exact rfl | apply And.intro | apply closeTs_cons rfl))
theorem containsClient_c (l : List DClient) (g : FuncId) (xs : List AV) (hxs : xs.all AV.isFree = true) (p : DClient → Bool) (hl : l.length ≤ 4294967296) (hg : ∀ d ∈ l, Fun1 Try.prog g [.agg d.enc, .one (.bptr xs 0)] (.one (.lit (.bool (p d))))) :
    Fun1 Try.prog 135 [.one (.row true 5 (l.map DClient.enc)), .one (.fn g [.bptr xs 0])] (.one (.lit (.bool (l.any p)))) := by
  refine fun1_of_vc tb_ok mix (fn := Try.f135) Try.func135 rfl (by kernel_rfl) (by kernel_rfl) (by simp [Try.f135]) (by rfl) ?_
  (conv => whnf)
  refine ⟨_, _, indexClient_c l g xs hxs p hl hg, lends_cons (lend_one (la_row rfl rfl)) (lends_cons (lend_one (la_fn rfl (all2_cons (la_bptr rfl rfl) all2_nil))) lends_nil), ?_⟩; (conv => whnf)
  cases hq : l.findIdx? p with
  | some i =>
    have : l.any p = true := by
      rw [List.findIdx?_eq_some_iff_getElem] at hq
      obtain ⟨h1, h2, _⟩ := hq
      exact List.any_eq_true.2 ⟨_, List.getElem_mem h1, h2⟩
    rw [this]
    exact ⟨close_bool (by simp), trivial⟩
  | none =>
    have : l.any p = false := by
      rw [List.findIdx?_eq_none_iff] at hq
      rw [List.any_eq_false]; exact fun x hx => by simp [hq x hx]
    rw [this]
    exact ⟨close_bool (by simp), trivial⟩
theorem sizeClient_c (l : List DClient) : Fun1 Try.prog 134 [.one (.row true 5 (l.map DClient.enc))] (.one (.lit (.int .i64 (l.length : Nat)))) := by
  refine fun1_of_vc tb_ok mix (fn := Try.f134) Try.func134 rfl (by kernel_rfl) (by kernel_rfl) (by simp [Try.f134]) (by rfl) ?_
  (conv => whnf)
  exact ⟨close_int (by simp), trivial⟩
/-- A number within bounds. -/
def wi (a b c : Int) : Bool := decide (b ≤ a) && decide (a ≤ c)
theorem within_w (a b c : Int) : Fun1 Try.prog 93 [.one (.lit (.int .i64 a)), .one (.lit (.int .i64 b)), .one (.lit (.int .i64 c))] (.one (.lit (.bool (wi a b c)))) := within_c a b c
def cutOk (c : DCutting) : Bool := wi c.min 16 1000 && wi c.bits 0 12 && wi c.max c.min 2000
theorem cutImpl_c (c : DCutting) : Fun1 Try.prog 133 [.agg c.enc] (.one (.lit (.bool (cutOk c)))) := by
  refine fun1_of_vc tb_ok mix (fn := Try.f133) Try.func133 rfl (by kernel_rfl) (by kernel_rfl) (by simp [Try.f133]) (by rfl) ?_
  (conv => whnf)
  refine ⟨_, _, within_w c.min 16 1000, (by repeat' (first | exact lends_nil | exact lend_dead | apply lends_cons | apply lend_agg | apply lend_one | exact all2_nil | apply all2_cons | exact la_lit rfl | exact la_int (by first | rfl | omega) | exact la_row rfl rfl | exact la_loc rfl rfl rfl (by first | rfl | simp [mkL_length]) (by first | rfl | simp) | exact la_nil rfl | apply la_fn rfl | exact lend_same rfl rfl | exact lend_bor rfl rfl)), ?_⟩; (conv => whnf)
  (split <;> rename_i h1 <;> (try simp only [decide_eq_true_eq, decide_eq_false_iff_not, Bool.not_eq_true', Bool.not_eq_false', Bool.not_eq_true, Bool.not_eq_false, List.length_map] at h1) <;> conv => whnf)
  · refine ⟨_, _, within_w c.bits 0 12, (by repeat' (first | exact lends_nil | exact lend_dead | apply lends_cons | apply lend_agg | apply lend_one | exact all2_nil | apply all2_cons | exact la_lit rfl | exact la_int (by first | rfl | omega) | exact la_row rfl rfl | exact la_loc rfl rfl rfl (by first | rfl | simp [mkL_length]) (by first | rfl | simp) | exact la_nil rfl | apply la_fn rfl | exact lend_same rfl rfl | exact lend_bor rfl rfl)), ?_⟩; (conv => whnf)
    (split <;> rename_i h2 <;> (try simp only [decide_eq_true_eq, decide_eq_false_iff_not, Bool.not_eq_true', Bool.not_eq_false', Bool.not_eq_true, Bool.not_eq_false, List.length_map] at h2) <;> conv => whnf)
    · refine ⟨_, _, within_w c.max c.min 2000, (by repeat' (first | exact lends_nil | exact lend_dead | apply lends_cons | apply lend_agg | apply lend_one | exact all2_nil | apply all2_cons | exact la_lit rfl | exact la_int (by first | rfl | omega) | exact la_row rfl rfl | exact la_loc rfl rfl rfl (by first | rfl | simp [mkL_length]) (by first | rfl | simp) | exact la_nil rfl | apply la_fn rfl | exact lend_same rfl rfl | exact lend_bor rfl rfl)), ?_⟩; (conv => whnf)
      exact ⟨close_bool (by simp only [cutOk, h1, h2, Bool.true_and]), trivial⟩
    · exact ⟨close_bool (by simp only [cutOk, h1, h2, Bool.true_and, Bool.false_and]), trivial⟩
  · exact ⟨close_bool (by simp only [cutOk, h1, Bool.false_and]), trivial⟩
theorem cutSpec_c (c : DCutting) : Fun1 Try.prog 130 [.agg c.enc] (.one (.lit (.bool (cutOk c)))) := by
  refine fun1_of_vc tb_ok mix (fn := Try.f130) Try.func130 rfl (by kernel_rfl) (by kernel_rfl) (by simp [Try.f130]) (by rfl) ?_
  (conv => whnf)
  (repeat' (split <;> rename_i hb <;> (try simp only [decide_eq_true_eq, decide_eq_false_iff_not, Bool.not_eq_true', Bool.not_eq_false', Bool.not_eq_true, Bool.not_eq_false, List.length_map] at hb) <;> conv => whnf))
  all_goals exact ⟨close_bool (by simp [cutOk, wi, *]), trivial⟩
def idleOk (c : DClient) : Bool := decide (c.cmd = 0) && decide (c.name = ⟨#[]⟩) && decide (c.steps.length = 0) && decide (c.at_ = 0) && decide (c.until_ = 0)
theorem idleImpl_c (c : DClient) : Fun1 Try.prog 137 [.agg c.enc] (.one (.lit (.bool (idleOk c)))) := by
  refine fun1_of_vc tb_ok mix (fn := Try.f137) Try.func137 rfl (by kernel_rfl) (by kernel_rfl) (by simp [Try.f137]) (by rfl) ?_
  (conv => whnf)
  (repeat' (split <;> rename_i hb <;> (try simp only [decide_eq_true_eq, decide_eq_false_iff_not, Bool.not_eq_true', Bool.not_eq_false', Bool.not_eq_true, Bool.not_eq_false, List.length_map] at hb) <;> conv => whnf))
  all_goals exact ⟨close_bool (by simp_all [idleOk]), trivial⟩
theorem idleSpec_c (c : DClient) : Fun1 Try.prog 196 [.agg c.enc] (.one (.lit (.bool (idleOk c)))) := by
  refine fun1_of_vc tb_ok mix (fn := Try.f196) Try.func196 rfl (by kernel_rfl) (by kernel_rfl) (by simp [Try.f196]) (by rfl) ?_
  (conv => whnf)
  (repeat' (split <;> rename_i hb <;> (try simp only [decide_eq_true_eq, decide_eq_false_iff_not, Bool.not_eq_true', Bool.not_eq_false', Bool.not_eq_true, Bool.not_eq_false, List.length_map] at hb) <;> conv => whnf))
  all_goals exact ⟨close_bool (by simp_all [idleOk]), trivial⟩
theorem snapName_c (s : ByteArray) (hs : s.size ≤ 4294967296) : Fun1 Try.prog 200 [.one (.lit (.string s))] (.one (.lit (.bool (nameOk s 20)))) := by
  refine fun1_of_vc tb_ok mix (fn := Try.f200) Try.func200 rfl (by kernel_rfl) (by kernel_rfl) (by simp [Try.f200]) (by rfl) ?_
  (conv => whnf)
  refine ⟨_, _, isName_c s 20 hs, (by repeat' (first | exact lends_nil | exact lend_dead | apply lends_cons | apply lend_agg | apply lend_one | exact all2_nil | apply all2_cons | exact la_lit rfl | exact la_int (by first | rfl | omega) | exact la_row rfl rfl | exact la_loc rfl rfl rfl (by first | rfl | simp [mkL_length]) (by first | rfl | simp) | exact la_nil rfl | apply la_fn rfl | exact lend_same rfl rfl | exact lend_bor rfl rfl)), ?_⟩; (conv => whnf)
  exact (by repeat' (first | exact trivial | exact close_int rfl | exact close_str rfl | exact close_bool rfl | exact close_int (by omega) | exact close_row rfl rfl (by first | rfl | simp) (by first | rfl | simp) | exact close_nil (by first | rfl | simp) | exact rfl | apply And.intro | apply closeTs_cons rfl))
theorem nameOk_20 (s : ByteArray) : nameOk s 20 = (nameOk s 80 && decide ((s.size : Int) ≤ 20)) := by
  rw [Bool.eq_iff_iff]
  simp only [nameOk, Bool.and_eq_true, decide_eq_true_eq]
  constructor
  · rintro ⟨h1, h2, h3⟩; exact ⟨⟨h1, h2, by omega⟩, h3⟩
  · rintro ⟨⟨h1, h2, h3⟩, h4⟩; exact ⟨h1, h2, h4⟩
theorem l12Name_c (s : ByteArray) (hs : s.size ≤ 4294967296) : Fun1 Try.prog 197 [.one (.lit (.string s))] (.one (.lit (.bool (nameOk s 20)))) := by
  refine fun1_of_vc tb_ok mix (fn := Try.f197) Try.func197 rfl (by kernel_rfl) (by kernel_rfl) (by simp [Try.f197]) (by rfl) ?_
  (conv => whnf)
  refine ⟨_, _, nameSpec_c s hs, (by repeat' (first | exact lends_nil | exact lend_dead | apply lends_cons | apply lend_agg | apply lend_one | exact all2_nil | apply all2_cons | exact la_lit rfl | exact la_int (by first | rfl | omega) | exact la_row rfl rfl | exact la_loc rfl rfl rfl (by first | rfl | simp [mkL_length]) (by first | rfl | simp) | exact la_nil rfl | apply la_fn rfl | exact lend_same rfl rfl | exact lend_bor rfl rfl)), ?_⟩; (conv => whnf)
  (split <;> rename_i h <;> (try simp only [decide_eq_true_eq, decide_eq_false_iff_not, Bool.not_eq_true', Bool.not_eq_false', Bool.not_eq_true, Bool.not_eq_false, List.length_map] at h) <;> conv => whnf)
  · exact ⟨close_bool (by rw [nameOk_20, h]; rfl), trivial⟩
  · exact ⟨close_bool (by rw [nameOk_20, h]; rfl), trivial⟩
theorem isCmd_c (a : Int) : Fun1 Try.prog 146 [.one (.lit (.int .i64 a))] (.one (.lit (.bool (wi a 1 4)))) := by
  refine fun1_of_vc tb_ok mix (fn := Try.f146) Try.func146 rfl (by kernel_rfl) (by kernel_rfl) (by simp [Try.f146]) (by rfl) ?_
  (conv => whnf)
  refine ⟨_, _, within_w a 1 4, (by repeat' (first | exact lends_nil | exact lend_dead | apply lends_cons | apply lend_agg | apply lend_one | exact all2_nil | apply all2_cons | exact la_lit rfl | exact la_int (by first | rfl | omega) | exact la_row rfl rfl | exact la_loc rfl rfl rfl (by first | rfl | simp [mkL_length]) (by first | rfl | simp) | exact la_nil rfl | apply la_fn rfl | exact lend_same rfl rfl | exact lend_bor rfl rfl)), ?_⟩; (conv => whnf)
  exact (by repeat' (first | exact trivial | exact close_int rfl | exact close_str rfl | exact close_bool rfl | exact close_int (by omega) | exact close_row rfl rfl (by first | rfl | simp) (by first | rfl | simp) | exact close_nil (by first | rfl | simp) | exact rfl | apply And.intro | apply closeTs_cons rfl))
theorem l16Cmd_c (a : Int) : Fun1 Try.prog 143 [.one (.lit (.int .i64 a))] (.one (.lit (.bool (wi a 1 4)))) := by
  refine fun1_of_vc tb_ok mix (fn := Try.f143) Try.func143 rfl (by kernel_rfl) (by kernel_rfl) (by simp [Try.f143]) (by rfl) ?_
  (conv => whnf)
  (repeat' (split <;> rename_i hb <;> (try simp only [decide_eq_true_eq, decide_eq_false_iff_not, Bool.not_eq_true', Bool.not_eq_false', Bool.not_eq_true, Bool.not_eq_false, List.length_map] at hb) <;> conv => whnf))
  all_goals exact ⟨close_bool (by simp [wi, *]), trivial⟩
def stepsOk (n : Int) (l : List DStep) : Bool := l.all fun s => wi s.drive 0 (n - 1)
theorem l09StepsRight_c (x : DArray) (l : List DStep) (hl : l.length ≤ 4294967296) (hd : x.drives.length ≤ 4294967296) : Fun1 Try.prog 163 [.agg x.enc, .one (.row true 5 (l.map DStep.enc))] (.one (.lit (.bool (stepsOk x.drives.length l)))) := by
  refine fun1_of_vc tb_ok mix (fn := Try.f163) Try.func163 rfl (by kernel_rfl) (by kernel_rfl) (by simp [Try.f163]) (by rfl) ?_
  (conv => whnf)
  refine ⟨LG (fun i : Nat => i ≤ l.length ∧ ∀ j (h : j < l.length), j < i → wi l[j].drive 0 (x.drives.length - 1) = true) (fun i => l.length - i) (fun i => AS.of [(1, .one (.row true 5 (l.map DStep.enc))), (2, .one (.ptr 32 0)), (5, .one (.lit (.int .i64 (i : Nat))))] [(32, .var x.enc)]), lg_init 0 ⟨by omega, fun j h h' => by omega⟩ (weak_of (by repeat (first | refine all_cons (by first | rfl | exact eq_int rfl (by first | rfl | omega | (simp; done) | (simp; omega)) | exact eq_loc rfl (by first | rfl | omega | (simp; done) | (simp; omega)) | exact eq_bool rfl (by simp_all)) ?_ | exact all_nil)) (by repeat (first | refine all_cons (by first | rfl | exact eq_int rfl (by first | rfl | omega | (simp; done) | (simp; omega)) | exact eq_loc rfl (by first | rfl | omega | (simp; done) | (simp; omega)) | exact eq_bool rfl (by simp_all)) ?_ | exact all_nil)) rfl rfl), ?_⟩
  rintro σ k ⟨i, ⟨hi, hc⟩, rfl, rfl⟩
  refine ⟨_, Weak.refl _, ?_⟩
  (conv => whnf)
  (split <;> rename_i h <;> (try simp only [decide_eq_true_eq, decide_eq_false_iff_not, Bool.not_eq_true', Bool.not_eq_false', Bool.not_eq_true, Bool.not_eq_false, List.length_map] at h) <;> conv => whnf)
  · have hlt : i < l.length := by omega
    have bad : wi l[i].drive 0 (x.drives.length - 1) = false → stepsOk x.drives.length l = false := fun h => by
      rw [stepsOk, List.all_eq_false]; exact ⟨_, List.getElem_mem hlt, by simp [h]⟩
    refine ⟨i, rfl, _, at_map hlt, ?_⟩; (conv => whnf)
    (split <;> rename_i h2 <;> (try simp only [decide_eq_true_eq, decide_eq_false_iff_not, Bool.not_eq_true', Bool.not_eq_false', Bool.not_eq_true, Bool.not_eq_false, List.length_map] at h2) <;> conv => whnf)
    · exact ⟨close_bool (bad (by simp [wi]; omega)), trivial⟩
    refine ⟨i, rfl, _, at_map hlt, ?_⟩; (conv => whnf)
    (split <;> rename_i h3 <;> (try simp only [decide_eq_true_eq, decide_eq_false_iff_not, Bool.not_eq_true', Bool.not_eq_false', Bool.not_eq_true, Bool.not_eq_false, List.length_map] at h3) <;> conv => whnf)
    · exact ⟨close_bool (bad (by simp [wi]; omega)), trivial⟩
    (refine ⟨((i + 1 : Nat) : Int), by rw [← wrap64_id] <;> omega, ?_⟩; conv => whnf)
    exact lg_back (i + 1) ⟨by omega, fun j hj hji => by
      by_cases e : j = i
      · subst e; simp [wi]; omega
      · exact hc j hj (by omega)⟩ (by (try dsimp only); omega) (weak_of (by repeat (first | refine all_cons (by first | rfl | exact eq_int rfl (by first | rfl | omega | (simp; done) | (simp; omega)) | exact eq_loc rfl (by first | rfl | omega | (simp; done) | (simp; omega)) | exact eq_bool rfl (by simp_all)) ?_ | exact all_nil)) (by repeat (first | refine all_cons (by first | rfl | exact eq_int rfl (by first | rfl | omega | (simp; done) | (simp; omega)) | exact eq_loc rfl (by first | rfl | omega | (simp; done) | (simp; omega)) | exact eq_bool rfl (by simp_all)) ?_ | exact all_nil)) rfl rfl)
  · exact ⟨close_bool (by
      rw [stepsOk, List.all_eq_true]; intro s hs
      obtain ⟨j, hj, rfl⟩ := List.getElem_of_mem hs
      exact hc j hj (by omega)), trivial⟩
def named (c : DClient) : Bool := decide (c.cmd = 1) || decide (c.cmd = 2)
def atWork (n : Int) (c : DClient) : Bool := wi c.cmd 1 4 && ((named c && nameOk c.name 20) || (!named c && decide (c.name = ⟨#[]⟩))) && wi c.steps.length 1 400 && stepsOk n c.steps && wi c.at_ 0 (c.steps.length - 1) && wi c.until_ 0 2000000000
theorem atWork1_c (s : DStep) (n : Int) (hn : 0 ≤ n ∧ n ≤ 4294967296) : Fun1 Try.prog 202 [.agg s.enc, .one (.bptr [.lit (.int .i64 n)] 0)] (.one (.lit (.bool (!wi s.drive 0 (n - 1))))) := by
  refine fun1_of_vc tb_ok mix (fn := Try.f202) Try.func202 rfl (by kernel_rfl) (by kernel_rfl) (by simp [Try.f202]) (by rfl) ?_
  (conv => whnf)
  refine ⟨n - 1, wrap64_id (by omega) (by omega), ?_⟩; (conv => whnf)
  refine ⟨_, _, within_w s.drive 0 (n - 1), (by repeat' (first | exact lends_nil | exact lend_dead | apply lends_cons | apply lend_agg | apply lend_one | exact all2_nil | apply all2_cons | exact la_lit rfl | exact la_int (by first | rfl | omega) | exact la_row rfl rfl | exact la_loc rfl rfl rfl (by first | rfl | simp [mkL_length]) (by first | rfl | simp) | exact la_nil rfl | apply la_fn rfl | exact lend_same rfl rfl | exact lend_bor rfl rfl)), ?_⟩; (conv => whnf)
  exact (by repeat' (first | exact trivial | exact close_int rfl | exact close_str rfl | exact close_bool rfl | exact close_int (by omega) | exact close_row rfl rfl (by first | rfl | simp) (by first | rfl | simp) | exact close_nil (by first | rfl | simp) | exact rfl | apply And.intro | apply closeTs_cons rfl))
theorem any_nots {l : List DStep} {p : DStep → Bool} : (!l.any fun d => !p d) = l.all p := by
  induction l with
  | nil => rfl
  | cons x l ih => simp only [List.any_cons, List.all_cons, Bool.not_or, Bool.not_not, ih]
theorem any_notc {l : List DClient} {p q : DClient → Bool} : (!l.any fun d => !p d && !q d) = l.all fun d => p d || q d := by
  induction l with
  | nil => rfl
  | cons x l ih => simp only [List.any_cons, List.all_cons, Bool.not_or, Bool.not_and, Bool.not_not, ih]
end Go.Proofs.Ytlijeincckbdaaa
