/- Contracts: copies of arrays; a new world. -/
import Derived.Test.YtlijeincckbdaaaS11
namespace Go.Proofs.Ytlijeincckbdaaa
open Go.RowKit
set_option linter.unusedSimpArgs false
set_option linter.unusedVariables false
set_option maxRecDepth 100000
set_option maxHeartbeats 8000000
theorem l09Copy_c (x : DArray) (hx : x.ok) : Fun1 Try.prog 148 [.agg x.enc] (.agg x.enc) := by
  obtain ⟨hk, hm, hl, hd⟩ := hx
  refine fun1_of_vc tb_ok mix (fn := Try.f148) Try.func148 rfl (by kernel_rfl) (by kernel_rfl) (by simp [Try.f148]) (by exact DArray.enc_nb _) ?_
  (conv => whnf)
  refine ⟨LG (fun i : Nat => i ≤ x.drives.length) (fun i => x.drives.length - i) (fun i => AS.of [(1, .one (.ptr 16 0)), (2, .one (.ptr 32 0)), (3, .one (.ptr 48 0)), (4, .one (.lit (.int .i64 (i : Nat))))]
    [(16, .var x.enc), (32, .var [.lit (.int .i64 0), .lit (.int .i64 0), .lit (.slice none 0 0)]), (48, .var [.lit (.int .i64 x.k), .lit (.int .i64 x.m), .loc 416 0 i]), (416, .row true 2 ((x.drives.take i).map DDrive.enc))]),
    lg_init 0 (by omega) (weak_nilv 48 416 2 [.lit (.int .i64 x.k), .lit (.int .i64 x.m)] [] rfl rfl (weak_of (by repeat (first | refine all_cons (by first | rfl | exact eq_int rfl (by first | rfl | omega | (simp; done) | (simp; omega)) | exact eq_loc rfl (by first | rfl | omega | (simp; done) | (simp; omega)) | exact eq_bool rfl (by simp_all)) ?_ | exact all_nil)) (by repeat (first | refine all_cons (by first | rfl | exact eq_int rfl (by first | rfl | omega | (simp; done) | (simp; omega)) | exact eq_loc rfl (by first | rfl | omega | (simp; done) | (simp; omega)) | exact eq_bool rfl (by simp_all)) ?_ | exact all_nil)) rfl rfl)), ?_⟩
  rintro σ k ⟨i, hi, rfl, rfl⟩
  refine ⟨_, Weak.refl _, ?_⟩
  (conv => whnf)
  (split <;> rename_i h <;> (try simp only [decide_eq_true_eq, decide_eq_false_iff_not, Bool.not_eq_true', Bool.not_eq_false', Bool.not_eq_true, Bool.not_eq_false, List.length_map] at h) <;> conv => whnf)
  · have hlt : i < x.drives.length := by omega
    have hts : (x.drives.take (i + 1)).map DDrive.enc = (x.drives.take i).map DDrive.enc ++ [x.drives[i].enc] := by
      rw [List.take_succ_eq_append_getElem hlt, List.map_append]; rfl
    refine ⟨i, rfl, _, at_map hlt, ?_⟩; (conv => whnf)
    refine ⟨_, _, l08Copy_c x.drives[i] (hd _ (List.getElem_mem hlt)), (by repeat' (first | exact lends_nil | exact lend_dead | apply lends_cons | apply lend_agg | apply lend_one | exact all2_nil | apply all2_cons | exact la_lit rfl | exact la_int (by first | rfl | omega) | exact la_row rfl rfl | exact la_loc rfl rfl rfl (by first | rfl | simp [mkL_length]) (by first | rfl | simp) | exact la_nil rfl | apply la_fn rfl | exact lend_same rfl rfl | exact lend_bor rfl rfl)), ?_⟩; (conv => whnf)
    refine ⟨_, _, ⟨rfl, Nat.le_refl _, rfl, rfl⟩, ?_⟩; (conv => whnf)
    refine ⟨_, rfl, rfl, by simp; omega, rfl, by simp [maxLen, chunk]; omega, by simp [chunk]; omega, ?_⟩; (conv => whnf)
    (refine ⟨((i + 1 : Nat) : Int), by rw [← wrap64_id] <;> omega, ?_⟩; conv => whnf)
    exact lg_back (i + 1) (by omega) (by (try dsimp only); omega) (weak_absorb 416 384 ((x.drives.take i).map DDrive.enc) [] [] [.lit (.int .i64 x.drives[i].room)] (es2 := x.drives[i].files.map DStored.enc) (by decide) rfl rfl (cellRow_map (fun _ => rfl) _) rfl rfl rfl
      (weak_of (all_cons rfl (all_cons rfl (all_cons rfl (all_cons rfl all_nil)))) (all_cons rfl (all_cons rfl (all_cons (eq_var rfl (by simp [chunk, AV.kill]; omega)) (all_cons (eq_row rfl (by rw [hts]; rfl)) all_nil)))) rfl rfl))
  · have : i = x.drives.length := by omega
    subst this
    exact ⟨close_int rfl, close_int rfl, close_row rfl rfl (by simp) (by simp), trivial⟩
theorem arrayCopied_c (x : DArray) (hx : x.ok) : Fun1 Try.prog 149 [.agg x.enc] (.agg x.enc) := by
  obtain ⟨hk, hm, hl, hd⟩ := hx
  refine fun1_of_vc tb_ok mix (fn := Try.f149) Try.func149 rfl (by kernel_rfl) (by kernel_rfl) (by simp [Try.f149]) (by exact DArray.enc_nb _) ?_
  (conv => whnf)
  refine ⟨LG (fun i : Nat => i ≤ x.drives.length) (fun i => x.drives.length - i) (fun i => AS.of [(2, .one (.ptr 32 0)), (3, .one (.ptr 48 0)), (12, .one (.row false 2 (x.drives.map DDrive.enc))), (13, .one (.lit (.int .i64 (x.drives.length : Nat)))), (14, .one (.lit (.int .i64 (i : Nat))))]
    [(32, .var [.lit (.int .i64 0), .lit (.int .i64 0), .lit (.slice none 0 0)]), (48, .var [.lit (.int .i64 x.k), .lit (.int .i64 x.m), .loc 368 0 i]), (368, .row true 2 ((x.drives.take i).map DDrive.enc))]),
    lg_init 0 (by omega) (weak_nilv 48 368 2 [.lit (.int .i64 x.k), .lit (.int .i64 x.m)] [] rfl rfl (weak_of (by repeat (first | refine all_cons (by first | rfl | exact eq_int rfl (by first | rfl | omega | (simp; done) | (simp; omega)) | exact eq_loc rfl (by first | rfl | omega | (simp; done) | (simp; omega)) | exact eq_bool rfl (by simp_all)) ?_ | exact all_nil)) (by repeat (first | refine all_cons (by first | rfl | exact eq_int rfl (by first | rfl | omega | (simp; done) | (simp; omega)) | exact eq_loc rfl (by first | rfl | omega | (simp; done) | (simp; omega)) | exact eq_bool rfl (by simp_all)) ?_ | exact all_nil)) rfl rfl)), ?_⟩
  rintro σ k ⟨i, hi, rfl, rfl⟩
  refine ⟨_, Weak.refl _, ?_⟩
  (conv => whnf)
  (split <;> rename_i h <;> (try simp only [decide_eq_true_eq, decide_eq_false_iff_not, Bool.not_eq_true', Bool.not_eq_false', Bool.not_eq_true, Bool.not_eq_false, List.length_map] at h) <;> conv => whnf)
  · have hlt : i < x.drives.length := by omega
    have hts : (x.drives.take (i + 1)).map DDrive.enc = (x.drives.take i).map DDrive.enc ++ [x.drives[i].enc] := by
      rw [List.take_succ_eq_append_getElem hlt, List.map_append]; rfl
    refine ⟨i, rfl, _, at_map hlt, ?_⟩; (conv => whnf)
    refine ⟨_, _, copied_c x.drives[i] (hd _ (List.getElem_mem hlt)), (by repeat' (first | exact lends_nil | exact lend_dead | apply lends_cons | apply lend_agg | apply lend_one | exact all2_nil | apply all2_cons | exact la_lit rfl | exact la_int (by first | rfl | omega) | exact la_row rfl rfl | exact la_loc rfl rfl rfl (by first | rfl | simp [mkL_length]) (by first | rfl | simp) | exact la_nil rfl | apply la_fn rfl | exact lend_same rfl rfl | exact lend_bor rfl rfl)), ?_⟩; (conv => whnf)
    refine ⟨_, _, ⟨rfl, Nat.le_refl _, rfl, rfl⟩, ?_⟩; (conv => whnf)
    refine ⟨_, rfl, rfl, by simp; omega, rfl, by simp [maxLen, chunk]; omega, by simp [chunk]; omega, ?_⟩; (conv => whnf)
    (refine ⟨((i + 1 : Nat) : Int), by rw [← wrap64_id] <;> omega, ?_⟩; conv => whnf)
    exact lg_back (i + 1) (by omega) (by (try dsimp only); omega) (weak_absorb 368 336 ((x.drives.take i).map DDrive.enc) [] [] [.lit (.int .i64 x.drives[i].room)] (es2 := x.drives[i].files.map DStored.enc) (by decide) rfl rfl (cellRow_map (fun _ => rfl) _) rfl rfl rfl
      (weak_of (all_cons rfl (all_cons rfl (all_cons rfl (all_cons rfl (all_cons rfl all_nil))))) (all_cons rfl (all_cons (eq_var rfl (by simp [chunk, AV.kill]; omega)) (all_cons (eq_row rfl (by rw [hts]; rfl)) all_nil))) rfl rfl))
  · have : i = x.drives.length := by omega
    subst this
    exact ⟨close_int rfl, close_int rfl, close_row rfl rfl (by simp) (by simp), trivial⟩
def clientZ : DClient := ⟨0, .empty, [], 0, 0⟩
def newW (x : DArray) (c : DCutting) (n : Int) : DWorld := if arrayOk x = true ∧ cutOk c = true ∧ 1 ≤ n ∧ n ≤ 4 then ⟨x, c, 0, List.replicate n.toNat clientZ⟩ else ⟨⟨0, 0, []⟩, ⟨0, 0, 0⟩, 0, []⟩
theorem replicate_nil (k : Nat) : nilR (List.replicate k [.lit (.int .i64 0), .lit (.string .empty), .lit (.slice none 0 0), .lit (.int .i64 0), .lit (.int .i64 0)]) ((List.replicate k clientZ).map DClient.enc) := by
  induction k with
  | zero => exact trivial
  | succ k ih => exact ⟨⟨rfl, rfl, .inr ⟨5, rfl⟩, rfl, rfl, trivial⟩, ih⟩
theorem newImpl_c (x : DArray) (hx : x.ok) (hu : ∀ d ∈ x.drives, usedN d.files ≤ 1000000000000) (c : DCutting) (n : Int) (res : DWorld) (hres : newW x c n = res) :
    Fun1 Try.prog 57 [.agg x.enc, .agg c.enc, .one (.lit (.int .i64 n))] (.agg res.enc) := by
  refine fun1_of_vc tb_ok mix (fn := Try.f57) Try.func57 rfl (by kernel_rfl) (by kernel_rfl) (by simp [Try.f57]) (by exact DWorld.enc_nb _) ?_
  (conv => whnf)
  refine ⟨_, _, arrayImpl_c x hx hu, (by repeat' (first | exact lends_nil | exact lend_dead | apply lends_cons | apply lend_agg | apply lend_one | exact all2_nil | apply all2_cons | exact la_lit rfl | exact la_int (by first | rfl | omega) | exact la_row rfl rfl | exact la_loc rfl rfl rfl (by first | rfl | simp [mkL_length]) (by first | rfl | simp) | exact la_nil rfl | apply la_fn rfl | exact lend_same rfl rfl | exact lend_bor rfl rfl)), ?_⟩; (conv => whnf)
  (split <;> rename_i h1 <;> (try simp only [decide_eq_true_eq, decide_eq_false_iff_not, Bool.not_eq_true', Bool.not_eq_false', Bool.not_eq_true, Bool.not_eq_false, List.length_map] at h1) <;> conv => whnf)
  · have : res = ⟨⟨0, 0, []⟩, ⟨0, 0, 0⟩, 0, []⟩ := by rw [← hres, newW, if_neg (by simp [h1])]
    subst this
    exact (by repeat' (first | exact trivial | exact close_int rfl | exact close_str rfl | exact close_bool rfl | exact close_int (by omega) | exact close_row rfl rfl (by first | rfl | simp) (by first | rfl | simp) | exact close_nil (by first | rfl | simp) | exact rfl | apply And.intro | apply closeTs_cons rfl))
  refine ⟨_, _, cutImpl_c c, (by repeat' (first | exact lends_nil | exact lend_dead | apply lends_cons | apply lend_agg | apply lend_one | exact all2_nil | apply all2_cons | exact la_lit rfl | exact la_int (by first | rfl | omega) | exact la_row rfl rfl | exact la_loc rfl rfl rfl (by first | rfl | simp [mkL_length]) (by first | rfl | simp) | exact la_nil rfl | apply la_fn rfl | exact lend_same rfl rfl | exact lend_bor rfl rfl)), ?_⟩; (conv => whnf)
  (split <;> rename_i h2 <;> (try simp only [decide_eq_true_eq, decide_eq_false_iff_not, Bool.not_eq_true', Bool.not_eq_false', Bool.not_eq_true, Bool.not_eq_false, List.length_map] at h2) <;> conv => whnf)
  · have : res = ⟨⟨0, 0, []⟩, ⟨0, 0, 0⟩, 0, []⟩ := by rw [← hres, newW, if_neg (by simp [h2])]
    subst this
    exact (by repeat' (first | exact trivial | exact close_int rfl | exact close_str rfl | exact close_bool rfl | exact close_int (by omega) | exact close_row rfl rfl (by first | rfl | simp) (by first | rfl | simp) | exact close_nil (by first | rfl | simp) | exact rfl | apply And.intro | apply closeTs_cons rfl))
  refine ⟨_, _, within_w n 1 4, (by repeat' (first | exact lends_nil | exact lend_dead | apply lends_cons | apply lend_agg | apply lend_one | exact all2_nil | apply all2_cons | exact la_lit rfl | exact la_int (by first | rfl | omega) | exact la_row rfl rfl | exact la_loc rfl rfl rfl (by first | rfl | simp [mkL_length]) (by first | rfl | simp) | exact la_nil rfl | apply la_fn rfl | exact lend_same rfl rfl | exact lend_bor rfl rfl)), ?_⟩; (conv => whnf)
  (split <;> rename_i h3 <;> (try simp only [decide_eq_true_eq, decide_eq_false_iff_not, Bool.not_eq_true', Bool.not_eq_false', Bool.not_eq_true, Bool.not_eq_false, List.length_map] at h3) <;> conv => whnf)
  · have : res = ⟨⟨0, 0, []⟩, ⟨0, 0, 0⟩, 0, []⟩ := by rw [← hres, newW, if_neg (by simp [wi] at h3; omega)]
    subst this
    exact (by repeat' (first | exact trivial | exact close_int rfl | exact close_str rfl | exact close_bool rfl | exact close_int (by omega) | exact close_row rfl rfl (by first | rfl | simp) (by first | rfl | simp) | exact close_nil (by first | rfl | simp) | exact rfl | apply And.intro | apply closeTs_cons rfl))
  simp only [wi, Bool.and_eq_true, decide_eq_true_eq] at h3
  have : res = ⟨x, c, 0, List.replicate n.toNat clientZ⟩ := by rw [← hres, newW, if_pos ⟨h1, h2, h3⟩]
  subst this
  refine ⟨_, _, arrayCopied_c x hx, (by repeat' (first | exact lends_nil | exact lend_dead | apply lends_cons | apply lend_agg | apply lend_one | exact all2_nil | apply all2_cons | exact la_lit rfl | exact la_int (by first | rfl | omega) | exact la_row rfl rfl | exact la_loc rfl rfl rfl (by first | rfl | simp [mkL_length]) (by first | rfl | simp) | exact la_nil rfl | apply la_fn rfl | exact lend_same rfl rfl | exact lend_bor rfl rfl)), ?_⟩; (conv => whnf)
  refine ⟨n.toNat, by omega, Int.le_refl _, by omega, by simp [maxLen]; omega, ?_⟩; (conv => whnf)
  exact ⟨close_int rfl, close_int rfl, close_row rfl rfl rfl rfl, close_int rfl, close_int rfl, close_int rfl, close_int rfl, close_rowN rfl rfl (by simp) (replicate_nil _), trivial⟩
theorem newSpec_c (x : DArray) (hx : x.ok) (hu : ∀ d ∈ x.drives, usedN d.files ≤ 1000000000000) (c : DCutting) (n : Int) (res : DWorld) (hres : newW x c n = res) :
    Fun1 Try.prog 55 [.agg x.enc, .agg c.enc, .one (.lit (.int .i64 n))] (.agg res.enc) := by
  refine fun1_of_vc tb_ok mix (fn := Try.f55) Try.func55 rfl (by kernel_rfl) (by kernel_rfl) (by simp [Try.f55]) (by exact DWorld.enc_nb _) ?_
  (conv => whnf)
  refine ⟨_, _, arraySpec_c x hx hu, (by repeat' (first | exact lends_nil | exact lend_dead | apply lends_cons | apply lend_agg | apply lend_one | exact all2_nil | apply all2_cons | exact la_lit rfl | exact la_int (by first | rfl | omega) | exact la_row rfl rfl | exact la_loc rfl rfl rfl (by first | rfl | simp [mkL_length]) (by first | rfl | simp) | exact la_nil rfl | apply la_fn rfl | exact lend_same rfl rfl | exact lend_bor rfl rfl)), ?_⟩; (conv => whnf)
  (split <;> rename_i h1 <;> (try simp only [decide_eq_true_eq, decide_eq_false_iff_not, Bool.not_eq_true', Bool.not_eq_false', Bool.not_eq_true, Bool.not_eq_false, List.length_map] at h1) <;> conv => whnf)
  · have : res = ⟨⟨0, 0, []⟩, ⟨0, 0, 0⟩, 0, []⟩ := by rw [← hres, newW, if_neg (by simp [h1])]
    subst this
    exact (by repeat' (first | exact trivial | exact close_int rfl | exact close_str rfl | exact close_bool rfl | exact close_int (by omega) | exact close_row rfl rfl (by first | rfl | simp) (by first | rfl | simp) | exact close_nil (by first | rfl | simp) | exact rfl | apply And.intro | apply closeTs_cons rfl))
  refine ⟨_, _, cutSpec_c c, (by repeat' (first | exact lends_nil | exact lend_dead | apply lends_cons | apply lend_agg | apply lend_one | exact all2_nil | apply all2_cons | exact la_lit rfl | exact la_int (by first | rfl | omega) | exact la_row rfl rfl | exact la_loc rfl rfl rfl (by first | rfl | simp [mkL_length]) (by first | rfl | simp) | exact la_nil rfl | apply la_fn rfl | exact lend_same rfl rfl | exact lend_bor rfl rfl)), ?_⟩; (conv => whnf)
  (split <;> rename_i h2 <;> (try simp only [decide_eq_true_eq, decide_eq_false_iff_not, Bool.not_eq_true', Bool.not_eq_false', Bool.not_eq_true, Bool.not_eq_false, List.length_map] at h2) <;> conv => whnf)
  · have : res = ⟨⟨0, 0, []⟩, ⟨0, 0, 0⟩, 0, []⟩ := by rw [← hres, newW, if_neg (by simp [h2])]
    subst this
    exact (by repeat' (first | exact trivial | exact close_int rfl | exact close_str rfl | exact close_bool rfl | exact close_int (by omega) | exact close_row rfl rfl (by first | rfl | simp) (by first | rfl | simp) | exact close_nil (by first | rfl | simp) | exact rfl | apply And.intro | apply closeTs_cons rfl))
  (split <;> rename_i h3 <;> (try simp only [decide_eq_true_eq, decide_eq_false_iff_not, Bool.not_eq_true', Bool.not_eq_false', Bool.not_eq_true, Bool.not_eq_false, List.length_map] at h3) <;> conv => whnf)
  · have : res = ⟨⟨0, 0, []⟩, ⟨0, 0, 0⟩, 0, []⟩ := by rw [← hres, newW, if_neg (by omega)]
    subst this
    exact (by repeat' (first | exact trivial | exact close_int rfl | exact close_str rfl | exact close_bool rfl | exact close_int (by omega) | exact close_row rfl rfl (by first | rfl | simp) (by first | rfl | simp) | exact close_nil (by first | rfl | simp) | exact rfl | apply And.intro | apply closeTs_cons rfl))
  (split <;> rename_i h4 <;> (try simp only [decide_eq_true_eq, decide_eq_false_iff_not, Bool.not_eq_true', Bool.not_eq_false', Bool.not_eq_true, Bool.not_eq_false, List.length_map] at h4) <;> conv => whnf)
  · have : res = ⟨⟨0, 0, []⟩, ⟨0, 0, 0⟩, 0, []⟩ := by rw [← hres, newW, if_neg (by omega)]
    subst this
    exact (by repeat' (first | exact trivial | exact close_int rfl | exact close_str rfl | exact close_bool rfl | exact close_int (by omega) | exact close_row rfl rfl (by first | rfl | simp) (by first | rfl | simp) | exact close_nil (by first | rfl | simp) | exact rfl | apply And.intro | apply closeTs_cons rfl))
  have : res = ⟨x, c, 0, List.replicate n.toNat clientZ⟩ := by rw [← hres, newW, if_pos ⟨h1, h2, by omega, by omega⟩]
  subst this
  refine ⟨_, _, l09Copy_c x hx, (by repeat' (first | exact lends_nil | exact lend_dead | apply lends_cons | apply lend_agg | apply lend_one | exact all2_nil | apply all2_cons | exact la_lit rfl | exact la_int (by first | rfl | omega) | exact la_row rfl rfl | exact la_loc rfl rfl rfl (by first | rfl | simp [mkL_length]) (by first | rfl | simp) | exact la_nil rfl | apply la_fn rfl | exact lend_same rfl rfl | exact lend_bor rfl rfl)), ?_⟩; (conv => whnf)
  refine ⟨n.toNat, by omega, Int.le_refl _, by omega, by simp [maxLen]; omega, ?_⟩; (conv => whnf)
  exact ⟨close_int rfl, close_int rfl, close_row rfl rfl rfl rfl, close_int rfl, close_int rfl, close_int rfl, close_int rfl, close_rowN rfl rfl (by simp) (replicate_nil _), trivial⟩
end Go.Proofs.Ytlijeincckbdaaa
