/- Contracts: how many clients are busy; locks. -/
import Derived.Test.YtlijeincckbdaaaS10
namespace Go.Proofs.Ytlijeincckbdaaa
open Go.RowKit
set_option linter.unusedSimpArgs false
set_option linter.unusedVariables false
set_option maxRecDepth 100000
set_option maxHeartbeats 8000000
theorem idle_iff {w : DWorld} (hw : worldOk w = true) {c : DClient} (hc : c ∈ w.clients) : c.cmd = 0 ↔ idleOk c = true := by
  simp only [worldOk, Bool.and_eq_true, List.all_eq_true, Bool.or_eq_true] at hw
  constructor
  · intro h
    rcases hw.2 c hc with h1 | h1
    · exact h1
    · simp [atWork, wi, h] at h1
  · intro h; simp only [idleOk, Bool.and_eq_true, decide_eq_true_eq] at h; exact h.1.1.1.1
def busyN (w : DWorld) : Nat := if worldOk w = true then w.clients.countP fun c => !idleOk c else 0
theorem countP_take_succ {α : Type} {p : α → Bool} {l : List α} {i : Nat} (h : i < l.length) : (l.take (i + 1)).countP p = (l.take i).countP p + (if p l[i] = true then 1 else 0) := by
  rw [List.take_succ_eq_append_getElem h, List.countP_append, List.countP_singleton]
theorem countP_take_le {α : Type} {p : α → Bool} {l : List α} {i : Nat} : (l.take i).countP p ≤ l.length := Nat.le_trans List.countP_le_length (by rw [List.length_take]; omega)
theorem busyImpl_c (w : DWorld) (hw : w.ok) (hu : ∀ d ∈ w.array.drives, usedN d.files ≤ 1000000000000) : Fun1 Try.prog 47 [.agg w.enc] (.one (.lit (.int .i64 (busyN w : Nat)))) := by
  have hw' := hw
  obtain ⟨ha, hcut, hnow, hcl, hc⟩ := hw
  refine fun1_of_vc tb_ok mix (fn := Try.f47) Try.func47 rfl (by kernel_rfl) (by kernel_rfl) (by simp [Try.f47]) (by rfl) ?_
  (conv => whnf)
  refine ⟨_, _, worldImpl_c w hw' hu, (by repeat' (first | exact lends_nil | exact lend_dead | apply lends_cons | apply lend_agg | apply lend_one | exact all2_nil | apply all2_cons | exact la_lit rfl | exact la_int (by first | rfl | omega) | exact la_row rfl rfl | exact la_loc rfl rfl rfl (by first | rfl | simp [mkL_length]) (by first | rfl | simp) | exact la_nil rfl | apply la_fn rfl | exact lend_same rfl rfl | exact lend_bor rfl rfl)), ?_⟩; (conv => whnf)
  (split <;> rename_i h1 <;> (try simp only [decide_eq_true_eq, decide_eq_false_iff_not, Bool.not_eq_true', Bool.not_eq_false', Bool.not_eq_true, Bool.not_eq_false, List.length_map] at h1) <;> conv => whnf)
  · exact ⟨close_int (by simp [busyN, h1]), trivial⟩
  refine ⟨LG (fun i : Nat => i ≤ w.clients.length) (fun i => w.clients.length - i) (fun i => AS.of [(3, .one (.lit (.int .i64 ((w.clients.take i).countP (fun c => !idleOk c) : Nat)))), (10, .one (.row false 5 (w.clients.map DClient.enc))), (11, .one (.lit (.int .i64 (w.clients.length : Nat)))), (12, .one (.lit (.int .i64 (i : Nat))))] []), lg_init 0 (by omega) (weak_of (by repeat (first | refine all_cons (by first | rfl | exact eq_int rfl (by first | rfl | omega | (simp; done) | (simp; omega)) | exact eq_loc rfl (by first | rfl | omega | (simp; done) | (simp; omega)) | exact eq_bool rfl (by simp_all)) ?_ | exact all_nil)) (by repeat (first | refine all_cons (by first | rfl | exact eq_int rfl (by first | rfl | omega | (simp; done) | (simp; omega)) | exact eq_loc rfl (by first | rfl | omega | (simp; done) | (simp; omega)) | exact eq_bool rfl (by simp_all)) ?_ | exact all_nil)) rfl rfl), ?_⟩
  rintro σ k ⟨i, hi, rfl, rfl⟩
  refine ⟨_, Weak.refl _, ?_⟩
  (conv => whnf)
  (split <;> rename_i h <;> (try simp only [decide_eq_true_eq, decide_eq_false_iff_not, Bool.not_eq_true', Bool.not_eq_false', Bool.not_eq_true, Bool.not_eq_false, List.length_map] at h) <;> conv => whnf)
  · have hlt : i < w.clients.length := by omega
    have hts := countP_take_succ (p := fun c => !idleOk c) hlt
    have hle := countP_take_le (p := fun c => !idleOk c) (l := w.clients) (i := i)
    refine ⟨i, rfl, _, at_map hlt, ?_⟩; (conv => whnf)
    refine ⟨_, _, idleImpl_c w.clients[i], (by repeat' (first | exact lends_nil | exact lend_dead | apply lends_cons | apply lend_agg | apply lend_one | exact all2_nil | apply all2_cons | exact la_lit rfl | exact la_int (by first | rfl | omega) | exact la_row rfl rfl | exact la_loc rfl rfl rfl (by first | rfl | simp [mkL_length]) (by first | rfl | simp) | exact la_nil rfl | apply la_fn rfl | exact lend_same rfl rfl | exact lend_bor rfl rfl)), ?_⟩; (conv => whnf)
    (split <;> rename_i h2 <;> (try simp only [decide_eq_true_eq, decide_eq_false_iff_not, Bool.not_eq_true', Bool.not_eq_false', Bool.not_eq_true, Bool.not_eq_false, List.length_map] at h2) <;> conv => whnf)
    · rw [if_pos (by simp [h2])] at hts
      refine ⟨(((w.clients.take i).countP (fun c => !idleOk c) + 1 : Nat) : Int), by rw [← wrap64_id] <;> omega, ?_⟩; (conv => whnf)
      (refine ⟨((i + 1 : Nat) : Int), by rw [← wrap64_id] <;> omega, ?_⟩; conv => whnf)
      exact lg_back (i + 1) (by omega) (by (try dsimp only); omega) (weak_of (all_cons (eq_int rfl (by rw [hts])) (all_cons rfl (all_cons rfl (all_cons rfl all_nil)))) all_nil rfl rfl)
    · rw [if_neg (by simp [h2])] at hts
      (refine ⟨((i + 1 : Nat) : Int), by rw [← wrap64_id] <;> omega, ?_⟩; conv => whnf)
      exact lg_back (i + 1) (by omega) (by (try dsimp only); omega) (weak_of (all_cons (eq_int rfl (by rw [hts]; rfl)) (all_cons rfl (all_cons rfl (all_cons rfl all_nil)))) all_nil rfl rfl)
  · have : i = w.clients.length := by omega
    subst this
    exact ⟨close_int (by rw [busyN, if_pos h1, List.take_length]), trivial⟩
theorem busySpec_c (w : DWorld) (hw : w.ok) (hu : ∀ d ∈ w.array.drives, usedN d.files ≤ 1000000000000) : Fun1 Try.prog 46 [.agg w.enc] (.one (.lit (.int .i64 (busyN w : Nat)))) := by
  have hw' := hw
  obtain ⟨ha, hcut, hnow, hcl, hc⟩ := hw
  refine fun1_of_vc tb_ok mix (fn := Try.f46) Try.func46 rfl (by kernel_rfl) (by kernel_rfl) (by simp [Try.f46]) (by rfl) ?_
  (conv => whnf)
  refine ⟨LG (fun i : Nat => i ≤ w.clients.length ∧ (i = 0 ∨ worldOk w = true)) (fun i => w.clients.length - i) (fun i => AS.of [(1, .one (.ptr 16 0)), (3, .one (.lit (.int .i64 ((w.clients.take i).countP (fun c => !idleOk c) : Nat)))), (4, .one (.lit (.int .i64 (i : Nat))))] [(16, .var w.enc)]), lg_init 0 ⟨by omega, .inl rfl⟩ (weak_of (by repeat (first | refine all_cons (by first | rfl | exact eq_int rfl (by first | rfl | omega | (simp; done) | (simp; omega)) | exact eq_loc rfl (by first | rfl | omega | (simp; done) | (simp; omega)) | exact eq_bool rfl (by simp_all)) ?_ | exact all_nil)) (by repeat (first | refine all_cons (by first | rfl | exact eq_int rfl (by first | rfl | omega | (simp; done) | (simp; omega)) | exact eq_loc rfl (by first | rfl | omega | (simp; done) | (simp; omega)) | exact eq_bool rfl (by simp_all)) ?_ | exact all_nil)) rfl rfl), ?_⟩
  rintro σ k ⟨i, ⟨hi, hok⟩, rfl, rfl⟩
  refine ⟨_, Weak.refl _, ?_⟩
  (conv => whnf)
  (split <;> rename_i h <;> (try simp only [decide_eq_true_eq, decide_eq_false_iff_not, Bool.not_eq_true', Bool.not_eq_false', Bool.not_eq_true, Bool.not_eq_false, List.length_map] at h) <;> conv => whnf)
  · have hlt : i < w.clients.length := by omega
    have hts := countP_take_succ (p := fun c => !idleOk c) hlt
    have hle := countP_take_le (p := fun c => !idleOk c) (l := w.clients) (i := i)
    refine ⟨_, _, worldSpec_c w hw' hu, (by repeat' (first | exact lends_nil | exact lend_dead | apply lends_cons | apply lend_agg | apply lend_one | exact all2_nil | apply all2_cons | exact la_lit rfl | exact la_int (by first | rfl | omega) | exact la_row rfl rfl | exact la_loc rfl rfl rfl (by first | rfl | simp [mkL_length]) (by first | rfl | simp) | exact la_nil rfl | apply la_fn rfl | exact lend_same rfl rfl | exact lend_bor rfl rfl)), ?_⟩; (conv => whnf)
    (split <;> rename_i h1 <;> (try simp only [decide_eq_true_eq, decide_eq_false_iff_not, Bool.not_eq_true', Bool.not_eq_false', Bool.not_eq_true, Bool.not_eq_false, List.length_map] at h1) <;> conv => whnf)
    · refine ⟨i, rfl, _, at_map hlt, ?_⟩; (conv => whnf)
      have hid := idle_iff h1 (List.getElem_mem hlt)
      (split <;> rename_i h2 <;> (try simp only [decide_eq_true_eq, decide_eq_false_iff_not, Bool.not_eq_true', Bool.not_eq_false', Bool.not_eq_true, Bool.not_eq_false, List.length_map] at h2) <;> conv => whnf)
      · rw [if_pos (by cases hq : idleOk w.clients[i] with | false => rfl | true => exact absurd (hid.2 hq) h2)] at hts
        refine ⟨(((w.clients.take i).countP (fun c => !idleOk c) + 1 : Nat) : Int), by rw [← wrap64_id] <;> omega, ?_⟩; (conv => whnf)
        (refine ⟨((i + 1 : Nat) : Int), by rw [← wrap64_id] <;> omega, ?_⟩; conv => whnf)
        exact lg_back (i + 1) ⟨by omega, .inr h1⟩ (by (try dsimp only); omega) (weak_of (all_cons rfl (all_cons (eq_int rfl (by rw [hts])) (all_cons rfl all_nil))) (all_cons rfl all_nil) rfl rfl)
      · rw [if_neg (by rw [hid.1 h2]; simp)] at hts
        (refine ⟨((i + 1 : Nat) : Int), by rw [← wrap64_id] <;> omega, ?_⟩; conv => whnf)
        exact lg_back (i + 1) ⟨by omega, .inr h1⟩ (by (try dsimp only); omega) (weak_of (all_cons rfl (all_cons (eq_int rfl (by rw [hts]; rfl)) (all_cons rfl all_nil))) (all_cons rfl all_nil) rfl rfl)
    · rcases hok with rfl | hok
      · exact ⟨close_int (by simp [busyN, h1]), trivial⟩
      · rw [h1] at hok; cases hok
  · have : i = w.clients.length := by omega
    subst this
    refine ⟨close_int ?_, trivial⟩
    rw [List.take_length, busyN]
    split
    · rfl
    · rename_i hn
      rcases hok with h0 | hok
      · rw [List.eq_nil_of_length_eq_zero h0]; rfl
      · exact absurd hok hn
/-- A client's lock stands in the way. -/
def lk (w : DWorld) (client cmd : Int) (i : Nat) (c : DClient) : Bool := decide (¬ (i : Int) = client) && !idleOk c && decide (w.now < c.until_) && (decide (¬ c.cmd = 1) || decide (¬ cmd = 1))
def lkAt (w : DWorld) (client cmd : Int) (i : Nat) : Bool := match w.clients[i]? with
  | some c => lk w client cmd i c
  | none => false
def lockN (w : DWorld) (client cmd : Int) : Bool := (List.range w.clients.length).any (lkAt w client cmd)
theorem lkAt_eq {w : DWorld} {client cmd : Int} {i : Nat} (h : i < w.clients.length) : lkAt w client cmd i = lk w client cmd i w.clients[i] := by rw [lkAt, List.getElem?_eq_getElem h]
theorem lock_t {w : DWorld} {client cmd : Int} {i : Nat} (h : i < w.clients.length) (hl : lk w client cmd i w.clients[i] = true) : lockN w client cmd = true := by
  rw [lockN, List.any_eq_true]; exact ⟨i, List.mem_range.2 h, by rw [lkAt_eq h]; exact hl⟩
theorem lock_f {w : DWorld} {client cmd : Int} (h : ∀ j (h : j < w.clients.length), lk w client cmd j w.clients[j] = false) : lockN w client cmd = false := by
  rw [lockN, List.any_eq_false]; intro i hi; rw [lkAt_eq (List.mem_range.1 hi), h i (List.mem_range.1 hi)]; simp
theorem holds_c (w : DWorld) (c : DClient) : Fun1 Try.prog 204 [.one (.bptr w.enc 0), .agg c.enc] (.one (.lit (.bool (!idleOk c && decide (w.now < c.until_))))) := by
  refine fun1_of_vc tb_ok mix (fn := Try.f204) Try.func204 rfl (by kernel_rfl) (by kernel_rfl) (by simp [Try.f204]) (by rfl) ?_
  (conv => whnf)
  refine ⟨_, _, idleImpl_c c, (by repeat' (first | exact lends_nil | exact lend_dead | apply lends_cons | apply lend_agg | apply lend_one | exact all2_nil | apply all2_cons | exact la_lit rfl | exact la_int (by first | rfl | omega) | exact la_row rfl rfl | exact la_loc rfl rfl rfl (by first | rfl | simp [mkL_length]) (by first | rfl | simp) | exact la_nil rfl | apply la_fn rfl | exact lend_same rfl rfl | exact lend_bor rfl rfl)), ?_⟩; (conv => whnf)
  (split <;> rename_i h <;> (try simp only [decide_eq_true_eq, decide_eq_false_iff_not, Bool.not_eq_true', Bool.not_eq_false', Bool.not_eq_true, Bool.not_eq_false, List.length_map] at h) <;> conv => whnf)
  · exact ⟨close_bool (by rw [h]; rfl), trivial⟩
  · exact ⟨close_bool (by rw [h]; rfl), trivial⟩
theorem isLocked_c (w : DWorld) (hcl : w.clients.length ≤ 4294967296) (client cmd : Int) : Fun1 Try.prog 147 [.one (.bptr w.enc 0), .one (.lit (.int .i64 client)), .one (.lit (.int .i64 cmd))] (.one (.lit (.bool (lockN w client cmd)))) := by
  refine fun1_of_vc tb_ok mix (fn := Try.f147) Try.func147 rfl (by kernel_rfl) (by kernel_rfl) (by simp [Try.f147]) (by rfl) ?_
  (conv => whnf)
  refine ⟨LG (fun i : Nat => i ≤ w.clients.length ∧ ∀ j (h : j < w.clients.length), j < i → lk w client cmd j w.clients[j] = false) (fun i => w.clients.length - i) (fun i => AS.of [(0, .one (.bptr w.enc 0)), (1, .one (.lit (.int .i64 client))), (2, .one (.lit (.int .i64 cmd))), (12, .one (.row false 5 (w.clients.map DClient.enc))), (13, .one (.lit (.int .i64 (w.clients.length : Nat)))), (14, .one (.lit (.int .i64 (i : Nat))))] []), lg_init 0 ⟨by omega, fun j h h' => by omega⟩ (weak_of (by repeat (first | refine all_cons (by first | rfl | exact eq_int rfl (by first | rfl | omega | (simp; done) | (simp; omega)) | exact eq_loc rfl (by first | rfl | omega | (simp; done) | (simp; omega)) | exact eq_bool rfl (by simp_all)) ?_ | exact all_nil)) (by repeat (first | refine all_cons (by first | rfl | exact eq_int rfl (by first | rfl | omega | (simp; done) | (simp; omega)) | exact eq_loc rfl (by first | rfl | omega | (simp; done) | (simp; omega)) | exact eq_bool rfl (by simp_all)) ?_ | exact all_nil)) rfl rfl), ?_⟩
  rintro σ k ⟨i, ⟨hi, hcc⟩, rfl, rfl⟩
  refine ⟨_, Weak.refl _, ?_⟩
  (conv => whnf)
  (split <;> rename_i h <;> (try simp only [decide_eq_true_eq, decide_eq_false_iff_not, Bool.not_eq_true', Bool.not_eq_false', Bool.not_eq_true, Bool.not_eq_false, List.length_map] at h) <;> conv => whnf)
  · have hlt : i < w.clients.length := by omega
    have hnext : lk w client cmd i w.clients[i] = false → ∀ j (h : j < w.clients.length), j < i + 1 → lk w client cmd j w.clients[j] = false := fun hf j hj hji => by
      by_cases e : j = i
      · subst e; exact hf
      · exact hcc j hj (by omega)
    refine ⟨i, rfl, _, at_map hlt, ?_⟩; (conv => whnf)
    (split <;> rename_i h1 <;> (try simp only [decide_eq_true_eq, decide_eq_false_iff_not, Bool.not_eq_true', Bool.not_eq_false', Bool.not_eq_true, Bool.not_eq_false, List.length_map] at h1) <;> conv => whnf)
    · refine ⟨_, _, holds_c w w.clients[i], lends_cons (lend_one (la_bptr rfl rfl)) (lends_cons (lend_bor rfl rfl) lends_nil), ?_⟩; (conv => whnf)
      (split <;> rename_i h2 <;> (try simp only [decide_eq_true_eq, decide_eq_false_iff_not, Bool.not_eq_true', Bool.not_eq_false', Bool.not_eq_true, Bool.not_eq_false, List.length_map] at h2) <;> conv => whnf)
      · simp only [Bool.and_eq_true, Bool.not_eq_true', decide_eq_true_eq] at h2
        (split <;> rename_i h3 <;> (try simp only [decide_eq_true_eq, decide_eq_false_iff_not, Bool.not_eq_true', Bool.not_eq_false', Bool.not_eq_true, Bool.not_eq_false, List.length_map] at h3) <;> conv => whnf)
        · exact ⟨close_bool (lock_t hlt (by simp [lk, h1, h2, h3])), trivial⟩
        · (split <;> rename_i h4 <;> (try simp only [decide_eq_true_eq, decide_eq_false_iff_not, Bool.not_eq_true', Bool.not_eq_false', Bool.not_eq_true, Bool.not_eq_false, List.length_map] at h4) <;> conv => whnf)
          · exact ⟨close_bool (lock_t hlt (by simp [lk, h1, h2, h4])), trivial⟩
          · (refine ⟨((i + 1 : Nat) : Int), by rw [← wrap64_id] <;> omega, ?_⟩; conv => whnf)
            exact lg_back (i + 1) ⟨by omega, hnext (by simp [lk, h3, h4])⟩ (by (try dsimp only); omega) (weak_of (by repeat (first | refine all_cons (by first | rfl | exact eq_int rfl (by first | rfl | omega | (simp; done) | (simp; omega)) | exact eq_loc rfl (by first | rfl | omega | (simp; done) | (simp; omega)) | exact eq_bool rfl (by simp_all)) ?_ | exact all_nil)) (by repeat (first | refine all_cons (by first | rfl | exact eq_int rfl (by first | rfl | omega | (simp; done) | (simp; omega)) | exact eq_loc rfl (by first | rfl | omega | (simp; done) | (simp; omega)) | exact eq_bool rfl (by simp_all)) ?_ | exact all_nil)) rfl rfl)
      · (refine ⟨((i + 1 : Nat) : Int), by rw [← wrap64_id] <;> omega, ?_⟩; conv => whnf)
        exact lg_back (i + 1) ⟨by omega, hnext (by rw [lk, Bool.and_assoc (decide _), h2]; simp)⟩ (by (try dsimp only); omega) (weak_of (by repeat (first | refine all_cons (by first | rfl | exact eq_int rfl (by first | rfl | omega | (simp; done) | (simp; omega)) | exact eq_loc rfl (by first | rfl | omega | (simp; done) | (simp; omega)) | exact eq_bool rfl (by simp_all)) ?_ | exact all_nil)) (by repeat (first | refine all_cons (by first | rfl | exact eq_int rfl (by first | rfl | omega | (simp; done) | (simp; omega)) | exact eq_loc rfl (by first | rfl | omega | (simp; done) | (simp; omega)) | exact eq_bool rfl (by simp_all)) ?_ | exact all_nil)) rfl rfl)
    · (refine ⟨((i + 1 : Nat) : Int), by rw [← wrap64_id] <;> omega, ?_⟩; conv => whnf)
      exact lg_back (i + 1) ⟨by omega, hnext (by simp [lk, h1])⟩ (by (try dsimp only); omega) (weak_of (by repeat (first | refine all_cons (by first | rfl | exact eq_int rfl (by first | rfl | omega | (simp; done) | (simp; omega)) | exact eq_loc rfl (by first | rfl | omega | (simp; done) | (simp; omega)) | exact eq_bool rfl (by simp_all)) ?_ | exact all_nil)) (by repeat (first | refine all_cons (by first | rfl | exact eq_int rfl (by first | rfl | omega | (simp; done) | (simp; omega)) | exact eq_loc rfl (by first | rfl | omega | (simp; done) | (simp; omega)) | exact eq_bool rfl (by simp_all)) ?_ | exact all_nil)) rfl rfl)
  · exact ⟨close_bool (lock_f fun j hj => hcc j hj (by omega)), trivial⟩
theorem l16Locked_c (w : DWorld) (hw : worldOk w = true) (hcl : w.clients.length ≤ 4294967296) (client cmd : Int) : Fun1 Try.prog 144 [.agg w.enc, .one (.lit (.int .i64 client)), .one (.lit (.int .i64 cmd))] (.one (.lit (.bool (lockN w client cmd)))) := by
  refine fun1_of_vc tb_ok mix (fn := Try.f144) Try.func144 rfl (by kernel_rfl) (by kernel_rfl) (by simp [Try.f144]) (by rfl) ?_
  (conv => whnf)
  refine ⟨LG (fun i : Nat => i ≤ w.clients.length ∧ ∀ j (h : j < w.clients.length), j < i → lk w client cmd j w.clients[j] = false) (fun i => w.clients.length - i) (fun i => AS.of [(1, .one (.lit (.int .i64 client))), (2, .one (.lit (.int .i64 cmd))), (3, .one (.ptr 48 0)), (7, .one (.lit (.int .i64 (i : Nat))))] [(48, .var w.enc)]), lg_init 0 ⟨by omega, fun j h h' => by omega⟩ (weak_of (by repeat (first | refine all_cons (by first | rfl | exact eq_int rfl (by first | rfl | omega | (simp; done) | (simp; omega)) | exact eq_loc rfl (by first | rfl | omega | (simp; done) | (simp; omega)) | exact eq_bool rfl (by simp_all)) ?_ | exact all_nil)) (by repeat (first | refine all_cons (by first | rfl | exact eq_int rfl (by first | rfl | omega | (simp; done) | (simp; omega)) | exact eq_loc rfl (by first | rfl | omega | (simp; done) | (simp; omega)) | exact eq_bool rfl (by simp_all)) ?_ | exact all_nil)) rfl rfl), ?_⟩
  rintro σ k ⟨i, ⟨hi, hcc⟩, rfl, rfl⟩
  refine ⟨_, Weak.refl _, ?_⟩
  (conv => whnf)
  (split <;> rename_i h <;> (try simp only [decide_eq_true_eq, decide_eq_false_iff_not, Bool.not_eq_true', Bool.not_eq_false', Bool.not_eq_true, Bool.not_eq_false, List.length_map] at h) <;> conv => whnf)
  · have hlt : i < w.clients.length := by omega
    have hid := idle_iff hw (List.getElem_mem hlt)
    have hnext : lk w client cmd i w.clients[i] = false → ∀ j (h : j < w.clients.length), j < i + 1 → lk w client cmd j w.clients[j] = false := fun hf j hj hji => by
      by_cases e : j = i
      · subst e; exact hf
      · exact hcc j hj (by omega)
    refine ⟨i, rfl, _, at_map hlt, ?_⟩; (conv => whnf)
    (split <;> rename_i h1 <;> (try simp only [decide_eq_true_eq, decide_eq_false_iff_not, Bool.not_eq_true', Bool.not_eq_false', Bool.not_eq_true, Bool.not_eq_false, List.length_map] at h1) <;> conv => whnf)
    · (split <;> rename_i h2 <;> (try simp only [decide_eq_true_eq, decide_eq_false_iff_not, Bool.not_eq_true', Bool.not_eq_false', Bool.not_eq_true, Bool.not_eq_false, List.length_map] at h2) <;> conv => whnf)
      · have h2' : idleOk w.clients[i] = false := by cases hq : idleOk w.clients[i] with | false => rfl | true => exact absurd (hid.2 hq) h2
        (split <;> rename_i h5 <;> (try simp only [decide_eq_true_eq, decide_eq_false_iff_not, Bool.not_eq_true', Bool.not_eq_false', Bool.not_eq_true, Bool.not_eq_false, List.length_map] at h5) <;> conv => whnf)
        · (split <;> rename_i h3 <;> (try simp only [decide_eq_true_eq, decide_eq_false_iff_not, Bool.not_eq_true', Bool.not_eq_false', Bool.not_eq_true, Bool.not_eq_false, List.length_map] at h3) <;> conv => whnf)
          · exact ⟨close_bool (lock_t hlt (by simp [lk, h1, h2', h3, h5])), trivial⟩
          · (split <;> rename_i h4 <;> (try simp only [decide_eq_true_eq, decide_eq_false_iff_not, Bool.not_eq_true', Bool.not_eq_false', Bool.not_eq_true, Bool.not_eq_false, List.length_map] at h4) <;> conv => whnf)
            · exact ⟨close_bool (lock_t hlt (by simp [lk, h1, h2', h4, h5])), trivial⟩
            · (refine ⟨((i + 1 : Nat) : Int), by rw [← wrap64_id] <;> omega, ?_⟩; conv => whnf)
              exact lg_back (i + 1) ⟨by omega, hnext (by simp [lk, h3, h4])⟩ (by (try dsimp only); omega) (weak_of (by repeat (first | refine all_cons (by first | rfl | exact eq_int rfl (by first | rfl | omega | (simp; done) | (simp; omega)) | exact eq_loc rfl (by first | rfl | omega | (simp; done) | (simp; omega)) | exact eq_bool rfl (by simp_all)) ?_ | exact all_nil)) (by repeat (first | refine all_cons (by first | rfl | exact eq_int rfl (by first | rfl | omega | (simp; done) | (simp; omega)) | exact eq_loc rfl (by first | rfl | omega | (simp; done) | (simp; omega)) | exact eq_bool rfl (by simp_all)) ?_ | exact all_nil)) rfl rfl)
        · (refine ⟨((i + 1 : Nat) : Int), by rw [← wrap64_id] <;> omega, ?_⟩; conv => whnf)
          exact lg_back (i + 1) ⟨by omega, hnext (by simp [lk, h5])⟩ (by (try dsimp only); omega) (weak_of (by repeat (first | refine all_cons (by first | rfl | exact eq_int rfl (by first | rfl | omega | (simp; done) | (simp; omega)) | exact eq_loc rfl (by first | rfl | omega | (simp; done) | (simp; omega)) | exact eq_bool rfl (by simp_all)) ?_ | exact all_nil)) (by repeat (first | refine all_cons (by first | rfl | exact eq_int rfl (by first | rfl | omega | (simp; done) | (simp; omega)) | exact eq_loc rfl (by first | rfl | omega | (simp; done) | (simp; omega)) | exact eq_bool rfl (by simp_all)) ?_ | exact all_nil)) rfl rfl)
      · have h2' : idleOk w.clients[i] = true := hid.1 h2
        (refine ⟨((i + 1 : Nat) : Int), by rw [← wrap64_id] <;> omega, ?_⟩; conv => whnf)
        exact lg_back (i + 1) ⟨by omega, hnext (by simp [lk, h2'])⟩ (by (try dsimp only); omega) (weak_of (by repeat (first | refine all_cons (by first | rfl | exact eq_int rfl (by first | rfl | omega | (simp; done) | (simp; omega)) | exact eq_loc rfl (by first | rfl | omega | (simp; done) | (simp; omega)) | exact eq_bool rfl (by simp_all)) ?_ | exact all_nil)) (by repeat (first | refine all_cons (by first | rfl | exact eq_int rfl (by first | rfl | omega | (simp; done) | (simp; omega)) | exact eq_loc rfl (by first | rfl | omega | (simp; done) | (simp; omega)) | exact eq_bool rfl (by simp_all)) ?_ | exact all_nil)) rfl rfl)
    · (refine ⟨((i + 1 : Nat) : Int), by rw [← wrap64_id] <;> omega, ?_⟩; conv => whnf)
      exact lg_back (i + 1) ⟨by omega, hnext (by simp [lk, h1])⟩ (by (try dsimp only); omega) (weak_of (by repeat (first | refine all_cons (by first | rfl | exact eq_int rfl (by first | rfl | omega | (simp; done) | (simp; omega)) | exact eq_loc rfl (by first | rfl | omega | (simp; done) | (simp; omega)) | exact eq_bool rfl (by simp_all)) ?_ | exact all_nil)) (by repeat (first | refine all_cons (by first | rfl | exact eq_int rfl (by first | rfl | omega | (simp; done) | (simp; omega)) | exact eq_loc rfl (by first | rfl | omega | (simp; done) | (simp; omega)) | exact eq_bool rfl (by simp_all)) ?_ | exact all_nil)) rfl rfl)
  · exact ⟨close_bool (lock_f fun j hj => hcc j hj (by omega)), trivial⟩
theorem isClient_c (w : DWorld) (hcl : w.clients.length ≤ 4294967296) (a : Int) : Fun1 Try.prog 145 [.one (.bptr w.enc 0), .one (.lit (.int .i64 a))] (.one (.lit (.bool (wi a 0 (w.clients.length - 1))))) := by
  refine fun1_of_vc tb_ok mix (fn := Try.f145) Try.func145 rfl (by kernel_rfl) (by kernel_rfl) (by simp [Try.f145]) (by rfl) ?_
  (conv => whnf)
  refine ⟨_, _, sizeClient_c w.clients, (by repeat' (first | exact lends_nil | exact lend_dead | apply lends_cons | apply lend_agg | apply lend_one | exact all2_nil | apply all2_cons | exact la_lit rfl | exact la_int (by first | rfl | omega) | exact la_row rfl rfl | exact la_loc rfl rfl rfl (by first | rfl | simp [mkL_length]) (by first | rfl | simp) | exact la_nil rfl | apply la_fn rfl | exact lend_same rfl rfl | exact lend_bor rfl rfl)), ?_⟩; (conv => whnf)
  refine ⟨(w.clients.length : Int) - 1, wrap64_id (by omega) (by omega), ?_⟩; (conv => whnf)
  refine ⟨_, _, within_w a 0 ((w.clients.length : Int) - 1), (by repeat' (first | exact lends_nil | exact lend_dead | apply lends_cons | apply lend_agg | apply lend_one | exact all2_nil | apply all2_cons | exact la_lit rfl | exact la_int (by first | rfl | omega) | exact la_row rfl rfl | exact la_loc rfl rfl rfl (by first | rfl | simp [mkL_length]) (by first | rfl | simp) | exact la_nil rfl | apply la_fn rfl | exact lend_same rfl rfl | exact lend_bor rfl rfl)), ?_⟩; (conv => whnf)
  exact (by repeat' (first | exact trivial | exact close_int rfl | exact close_str rfl | exact close_bool rfl | exact close_int (by omega) | exact close_row rfl rfl (by first | rfl | simp) (by first | rfl | simp) | exact close_nil (by first | rfl | simp) | exact rfl | apply And.intro | apply closeTs_cons rfl))
theorem l16Is_c (w : DWorld) (a : Int) : Fun1 Try.prog 142 [.agg w.enc, .one (.lit (.int .i64 a))] (.one (.lit (.bool (wi a 0 (w.clients.length - 1))))) := by
  refine fun1_of_vc tb_ok mix (fn := Try.f142) Try.func142 rfl (by kernel_rfl) (by kernel_rfl) (by simp [Try.f142]) (by rfl) ?_
  (conv => whnf)
  (repeat' (split <;> rename_i hb <;> (try simp only [decide_eq_true_eq, decide_eq_false_iff_not, Bool.not_eq_true', Bool.not_eq_false', Bool.not_eq_true, Bool.not_eq_false, List.length_map] at hb) <;> conv => whnf))
  all_goals exact ⟨close_bool (by first | (simp [wi]; omega) | (rw [Bool.eq_iff_iff]; simp [wi]; omega)), trivial⟩
def lockedB (w : DWorld) (client cmd : Int) : Bool := worldOk w && wi client 0 (w.clients.length - 1) && wi cmd 1 4 && lockN w client cmd
theorem lockedImpl_c (w : DWorld) (hw : w.ok) (hu : ∀ d ∈ w.array.drives, usedN d.files ≤ 1000000000000) (client cmd : Int) : Fun1 Try.prog 54 [.agg w.enc, .one (.lit (.int .i64 client)), .one (.lit (.int .i64 cmd))] (.one (.lit (.bool (lockedB w client cmd)))) := by
  have hcl := hw.2.2.2.1
  refine fun1_of_vc tb_ok mix (fn := Try.f54) Try.func54 rfl (by kernel_rfl) (by kernel_rfl) (by simp [Try.f54]) (by rfl) ?_
  (conv => whnf)
  refine ⟨_, _, worldImpl_c w hw hu, (by repeat' (first | exact lends_nil | exact lend_dead | apply lends_cons | apply lend_agg | apply lend_one | exact all2_nil | apply all2_cons | exact la_lit rfl | exact la_int (by first | rfl | omega) | exact la_row rfl rfl | exact la_loc rfl rfl rfl (by first | rfl | simp [mkL_length]) (by first | rfl | simp) | exact la_nil rfl | apply la_fn rfl | exact lend_same rfl rfl | exact lend_bor rfl rfl)), ?_⟩; (conv => whnf)
  (split <;> rename_i h1 <;> (try simp only [decide_eq_true_eq, decide_eq_false_iff_not, Bool.not_eq_true', Bool.not_eq_false', Bool.not_eq_true, Bool.not_eq_false, List.length_map] at h1) <;> conv => whnf)
  case h_2 => exact ⟨close_bool (by simp only [lockedB, h1, Bool.false_and]), trivial⟩
  refine ⟨_, _, isClient_c w hcl client, lends_cons (lend_one (la_ptr rfl rfl rfl (all2_cell (xs := w.enc) rfl))) (lends_cons (lend_one (la_lit rfl)) lends_nil), ?_⟩; (conv => whnf)
  (split <;> rename_i h2 <;> (try simp only [decide_eq_true_eq, decide_eq_false_iff_not, Bool.not_eq_true', Bool.not_eq_false', Bool.not_eq_true, Bool.not_eq_false, List.length_map] at h2) <;> conv => whnf)
  case h_2 => exact ⟨close_bool (by simp only [lockedB, h1, h2, Bool.true_and, Bool.false_and]), trivial⟩
  refine ⟨_, _, isCmd_c cmd, (by repeat' (first | exact lends_nil | exact lend_dead | apply lends_cons | apply lend_agg | apply lend_one | exact all2_nil | apply all2_cons | exact la_lit rfl | exact la_int (by first | rfl | omega) | exact la_row rfl rfl | exact la_loc rfl rfl rfl (by first | rfl | simp [mkL_length]) (by first | rfl | simp) | exact la_nil rfl | apply la_fn rfl | exact lend_same rfl rfl | exact lend_bor rfl rfl)), ?_⟩; (conv => whnf)
  (split <;> rename_i h3 <;> (try simp only [decide_eq_true_eq, decide_eq_false_iff_not, Bool.not_eq_true', Bool.not_eq_false', Bool.not_eq_true, Bool.not_eq_false, List.length_map] at h3) <;> conv => whnf)
  case h_2 => exact ⟨close_bool (by simp only [lockedB, h1, h2, h3, Bool.true_and, Bool.false_and]), trivial⟩
  refine ⟨_, _, isLocked_c w hcl client cmd, lends_cons (lend_one (la_ptr rfl rfl rfl (all2_cell (xs := w.enc) rfl))) (lends_cons (lend_one (la_lit rfl)) (lends_cons (lend_one (la_lit rfl)) lends_nil)), ?_⟩; (conv => whnf)
  exact ⟨close_bool (by simp only [lockedB, h1, h2, h3, Bool.true_and]), trivial⟩
theorem lockedSpec_c (w : DWorld) (hw : w.ok) (hu : ∀ d ∈ w.array.drives, usedN d.files ≤ 1000000000000) (client cmd : Int) : Fun1 Try.prog 53 [.agg w.enc, .one (.lit (.int .i64 client)), .one (.lit (.int .i64 cmd))] (.one (.lit (.bool (lockedB w client cmd)))) := by
  have hcl := hw.2.2.2.1
  refine fun1_of_vc tb_ok mix (fn := Try.f53) Try.func53 rfl (by kernel_rfl) (by kernel_rfl) (by simp [Try.f53]) (by rfl) ?_
  (conv => whnf)
  refine ⟨_, _, worldSpec_c w hw hu, (by repeat' (first | exact lends_nil | exact lend_dead | apply lends_cons | apply lend_agg | apply lend_one | exact all2_nil | apply all2_cons | exact la_lit rfl | exact la_int (by first | rfl | omega) | exact la_row rfl rfl | exact la_loc rfl rfl rfl (by first | rfl | simp [mkL_length]) (by first | rfl | simp) | exact la_nil rfl | apply la_fn rfl | exact lend_same rfl rfl | exact lend_bor rfl rfl)), ?_⟩; (conv => whnf)
  (split <;> rename_i h1 <;> (try simp only [decide_eq_true_eq, decide_eq_false_iff_not, Bool.not_eq_true', Bool.not_eq_false', Bool.not_eq_true, Bool.not_eq_false, List.length_map] at h1) <;> conv => whnf)
  case h_2 => exact ⟨close_bool (by simp only [lockedB, h1, Bool.false_and]), trivial⟩
  refine ⟨_, _, l16Is_c w client, (by repeat' (first | exact lends_nil | exact lend_dead | apply lends_cons | apply lend_agg | apply lend_one | exact all2_nil | apply all2_cons | exact la_lit rfl | exact la_int (by first | rfl | omega) | exact la_row rfl rfl | exact la_loc rfl rfl rfl (by first | rfl | simp [mkL_length]) (by first | rfl | simp) | exact la_nil rfl | apply la_fn rfl | exact lend_same rfl rfl | exact lend_bor rfl rfl)), ?_⟩; (conv => whnf)
  (split <;> rename_i h2 <;> (try simp only [decide_eq_true_eq, decide_eq_false_iff_not, Bool.not_eq_true', Bool.not_eq_false', Bool.not_eq_true, Bool.not_eq_false, List.length_map] at h2) <;> conv => whnf)
  case h_2 => exact ⟨close_bool (by simp only [lockedB, h1, h2, Bool.true_and, Bool.false_and]), trivial⟩
  refine ⟨_, _, l16Cmd_c cmd, (by repeat' (first | exact lends_nil | exact lend_dead | apply lends_cons | apply lend_agg | apply lend_one | exact all2_nil | apply all2_cons | exact la_lit rfl | exact la_int (by first | rfl | omega) | exact la_row rfl rfl | exact la_loc rfl rfl rfl (by first | rfl | simp [mkL_length]) (by first | rfl | simp) | exact la_nil rfl | apply la_fn rfl | exact lend_same rfl rfl | exact lend_bor rfl rfl)), ?_⟩; (conv => whnf)
  (split <;> rename_i h3 <;> (try simp only [decide_eq_true_eq, decide_eq_false_iff_not, Bool.not_eq_true', Bool.not_eq_false', Bool.not_eq_true, Bool.not_eq_false, List.length_map] at h3) <;> conv => whnf)
  case h_2 => exact ⟨close_bool (by simp only [lockedB, h1, h2, h3, Bool.true_and, Bool.false_and]), trivial⟩
  refine ⟨_, _, l16Locked_c w h1 hcl client cmd, (by repeat' (first | exact lends_nil | exact lend_dead | apply lends_cons | apply lend_agg | apply lend_one | exact all2_nil | apply all2_cons | exact la_lit rfl | exact la_int (by first | rfl | omega) | exact la_row rfl rfl | exact la_loc rfl rfl rfl (by first | rfl | simp [mkL_length]) (by first | rfl | simp) | exact la_nil rfl | apply la_fn rfl | exact lend_same rfl rfl | exact lend_bor rfl rfl)), ?_⟩; (conv => whnf)
  exact ⟨close_bool (by simp only [lockedB, h1, h2, h3, Bool.true_and]), trivial⟩
end Go.Proofs.Ytlijeincckbdaaa
