/- Contracts (reference): the names that are kept. -/
import Derived.Test.YtlijeincckbdaaaQt
namespace Go.Proofs.Ytlijeincckbdaaa
open Go.RowKit
set_option linter.unusedSimpArgs false
set_option linter.unusedVariables false
set_option maxRecDepth 100000
set_option maxHeartbeats 8000000
def tbK : Tab := .marks (207 :: tb.wr) (207 :: tb.own) tbO154.ord tab
theorem tbK_ok : tbK.ok Try.prog := tab_ok
def putAll (l0 M : List ByteArray) (i : Nat) : List ByteArray := (M.take i).foldl putN l0
theorem putAll_succ {l0 M : List ByteArray} {i : Nat} (hi : i < M.length) : putAll l0 M (i + 1) = putN (putAll l0 M i) M[i] := by
  unfold putAll
  rw [List.take_succ_eq_append_getElem hi, List.foldl_append]; rfl
theorem putAll_len (l0 M : List ByteArray) (i : Nat) : (putAll l0 M i).length ≤ l0.length + i := by
  have := foldPut_len (M.take i) l0
  unfold putAll
  simp at this
  omega
theorem l13Keep_c (p : DPolicy) (hp : 0 ≤ p.last) (l : List DSnap) (hl : l.length ≤ 100) (hd : ∀ s ∈ newest l, 0 ≤ s.day ∧ s.day ≤ 1000000) : Fun1 Try.prog 154 [.agg p.enc, .one (.row true 3 (l.map DSnap.enc))] (.one (.row true 1 ((keptN p (newest l)).map eStr))) := by
  refine fun1_of_vc (E := tbK) tbK_ok mix (fn := Try.f154) Try.func154 rfl (by kernel_rfl) (by kernel_rfl) (by simp [Try.f154]) (by show AV.nb (4 + 1) _ = true; exact nb_map (n := 4) (fun y => eStr_nbn 4 y) _) ?_
  (conv => whnf)
  refine ⟨_, _, l13Newest_c l (by omega), (by repeat' (first | exact lends_nil | exact lend_dead | apply lends_cons | apply lend_agg | apply lend_one | exact all2_nil | apply all2_cons | exact la_lit rfl | exact la_int (by first | rfl | omega) | exact la_row rfl rfl | exact la_loc rfl rfl rfl (by first | rfl | simp [mkL_length]) (by first | rfl | simp) | exact la_nil rfl | apply la_fn rfl | exact lend_same rfl rfl | exact lend_bor rfl rfl)), ?_⟩; (conv => whnf)
  have hsl : (newest l).length = l.length := by have := newest_take_len l l.length (Nat.le_refl _); rwa [List.take_length] at this
  obtain ⟨srt, hsrt⟩ : ∃ srt, newest l = srt := ⟨_, rfl⟩
  rw [hsrt] at hsl hd
  simp only [hsrt]
  have hlk : lastK p srt ≤ srt.length := by unfold lastK; omega
  have hlk2 : ((lastK p srt : Nat) : Int) = min p.last (srt.length : Int) := by unfold lastK; omega
  have cA := l13Some_c srt (by omega) hd p.days 1 (by decide)
  have cB := l13Some_c srt (by omega) hd p.weeks 7 (by decide)
  have cC := l13Some_c srt (by omega) hd p.months 30 (by decide)
  have lA := someN_len srt p.days 1 srt.length
  have lB := someN_len srt p.weeks 7 srt.length
  have lC := someN_len srt p.months 30 srt.length
  have hmore : moreN p srt = someN srt p.days 1 srt.length ++ someN srt p.weeks 7 srt.length ++ someN srt p.months 30 srt.length := rfl
  generalize someN srt p.days 1 srt.length = A at cA lA hmore
  generalize someN srt p.weeks 7 srt.length = B at cB lB hmore
  generalize someN srt p.months 30 srt.length = C at cC lC hmore
  obtain ⟨M, hM⟩ : ∃ M, A ++ B ++ C = M := ⟨_, rfl⟩
  have lM : M.length = A.length + B.length + C.length := by rw [← hM]; simp; omega
  rw [hM] at hmore
  have hkept : keptN p srt = putAll (firstN srt (lastK p srt)) M M.length := by unfold keptN putAll; rw [hmore, List.take_length]
  rw [hkept]
  have hf0 := (first_ok (l := srt) (lastK p srt) hlk).2
  refine ⟨LG (fun i : Nat => i ≤ lastK p srt) (fun i => srt.length - i) (fun i => AS.of [(2, .one (.ptr 32 0)), (5, .one (.loc 176 0 srt.length)), (6, .one (.loc 192 0 (firstN srt i).length)), (7, .one (.lit (.int .i64 (i : Nat))))] [(32, .var p.enc), (176, .row true 3 (srt.map DSnap.enc)), (192, .row true 1 ((firstN srt i).map eStr))]), lg_init 0 (by omega) (weak_of (by repeat (first | refine all_cons (by first | rfl | exact eq_int rfl (by first | rfl | omega | (simp; done) | (simp; omega)) | exact eq_loc rfl (by first | rfl | omega | (simp; done) | (simp; omega)) | exact eq_bool rfl (by simp_all)) ?_ | exact all_nil)) (by repeat (first | refine all_cons (by first | rfl | exact eq_int rfl (by first | rfl | omega | (simp; done) | (simp; omega)) | exact eq_loc rfl (by first | rfl | omega | (simp; done) | (simp; omega)) | exact eq_bool rfl (by simp_all)) ?_ | exact all_nil)) rfl rfl), ?_⟩
  rintro σ k ⟨i, hi, rfl, rfl⟩
  refine ⟨_, Weak.refl _, ?_⟩
  (conv => whnf)
  have hfl := (first_ok (l := srt) i (by omega)).2
  (split <;> rename_i h1 <;> (try simp only [decide_eq_true_eq, decide_eq_false_iff_not, Bool.not_eq_true', Bool.not_eq_false', Bool.not_eq_true, Bool.not_eq_false, List.length_map] at h1) <;> conv => whnf)
  · have hlt : i < srt.length := by omega
    (split <;> rename_i h2 <;> (try simp only [decide_eq_true_eq, decide_eq_false_iff_not, Bool.not_eq_true', Bool.not_eq_false', Bool.not_eq_true, Bool.not_eq_false, List.length_map] at h2) <;> conv => whnf)
    · have hs := firstN_succ hlt
      refine ⟨i, rfl, by omega, ?_⟩; (conv => whnf)
      refine ⟨_, at_map0 hlt, ?_⟩; (conv => whnf)
      by_cases hq : (firstN srt i)[putK (firstN srt i) srt[i].name]? = some srt[i].name
      · have he : firstN srt (i + 1) = firstN srt i := by rw [hs]; unfold putN; rw [if_pos hq]
        refine ⟨_, _, id_ok (l09Put_i (firstN srt i) (by omega) srt[i].name hq) rfl (by repeat' (first | exact lends_nil | exact lend_dead | apply lends_cons | apply lend_agg | apply lend_one | exact all2_nil | apply all2_cons | exact la_lit rfl | exact la_int (by first | rfl | omega) | exact la_row rfl rfl | exact la_loc rfl rfl rfl (by first | rfl | simp [mkL_length]) (by first | rfl | simp) | exact la_nil rfl | apply la_fn rfl | exact lend_same rfl rfl | exact lend_bor rfl rfl)), ?_⟩; (conv => whnf)
        (refine ⟨((i + 1 : Nat) : Int), by rw [← wrap64_id] <;> omega, ?_⟩; conv => whnf)
        exact lg_back (i + 1) (by omega) (by (try dsimp only); omega) (weak_of (all_cons rfl (all_cons rfl (all_cons (eq_loc rfl (by rw [he])) (all_cons rfl all_nil)))) (all_cons rfl (all_cons rfl (all_cons (eq_row rfl (by rw [he])) all_nil))) rfl rfl)
      · refine ⟨_, _, fun_ok 9 (l09Put_c (firstN srt i) (by omega) srt[i].name hq) (by repeat' (first | exact lends_nil | exact lend_dead | apply lends_cons | apply lend_agg | apply lend_one | exact all2_nil | apply all2_cons | exact la_lit rfl | exact la_int (by first | rfl | omega) | exact la_row rfl rfl | exact la_loc rfl rfl rfl (by first | rfl | simp [mkL_length]) (by first | rfl | simp) | exact la_nil rfl | apply la_fn rfl | exact lend_same rfl rfl | exact lend_bor rfl rfl)) (fun x hx => by rw [List.mem_singleton.1 hx]; rfl), ?_⟩; (conv => whnf)
        (refine ⟨((i + 1 : Nat) : Int), by rw [← wrap64_id] <;> omega, ?_⟩; conv => whnf)
        exact lg_back (i + 1) (by omega) (by (try dsimp only); omega) (weak_swap 192 9 (weak_of (all_cons rfl (all_cons rfl (all_cons (eq_loc rfl (by rw [hs]; simp)) (all_cons rfl all_nil)))) (all_cons rfl (all_cons rfl (all_cons (eq_row rfl (by rw [hs])) all_nil))) rfl rfl))
    · skip
      have hie : i = lastK p srt := by omega
      repeat' (first
        | exact True.intro | (apply And.intro <;> conv => whnf)
        | (refine ⟨_, _, cA, ?_, ?_⟩; (focus ((repeat' (first | exact lends_nil | exact lend_dead | apply lends_cons | apply lend_agg | apply lend_one | exact all2_nil | apply all2_cons | exact la_lit rfl | exact la_int (by first | rfl | omega) | exact la_row rfl rfl | exact la_loc rfl rfl rfl (by first | rfl | simp [mkL_length]) (by first | rfl | simp) | exact la_nil rfl | apply la_fn rfl | exact lend_same rfl rfl | exact lend_bor rfl rfl)); done)); (conv => whnf))
        | (refine ⟨_, _, cB, ?_, ?_⟩; (focus ((repeat' (first | exact lends_nil | exact lend_dead | apply lends_cons | apply lend_agg | apply lend_one | exact all2_nil | apply all2_cons | exact la_lit rfl | exact la_int (by first | rfl | omega) | exact la_row rfl rfl | exact la_loc rfl rfl rfl (by first | rfl | simp [mkL_length]) (by first | rfl | simp) | exact la_nil rfl | apply la_fn rfl | exact lend_same rfl rfl | exact lend_bor rfl rfl)); done)); (conv => whnf))
        | (refine ⟨_, _, cC, ?_, ?_⟩; (focus ((repeat' (first | exact lends_nil | exact lend_dead | apply lends_cons | apply lend_agg | apply lend_one | exact all2_nil | apply all2_cons | exact la_lit rfl | exact la_int (by first | rfl | omega) | exact la_row rfl rfl | exact la_loc rfl rfl rfl (by first | rfl | simp [mkL_length]) (by first | rfl | simp) | exact la_nil rfl | apply la_fn rfl | exact lend_same rfl rfl | exact lend_bor rfl rfl)); done)); (conv => whnf))
        | (refine ⟨true, B.map eStr, ⟨rfl, ?_, rfl, ?_⟩, ?_⟩; (focus (simp; done)); (focus (rw [List.drop_zero, List.take_length])); (conv => whnf); refine ⟨_, laid_map (f := eStr) (fun _ => rfl) B, rfl, by simp, rfl, by simp [maxLen]; omega, by simp; omega, ?_⟩; (conv => whnf))
        | (refine ⟨true, C.map eStr, ⟨rfl, ?_, rfl, ?_⟩, ?_⟩; (focus (simp; done)); (focus (rw [List.drop_zero, List.take_length])); (conv => whnf); refine ⟨_, laid_map (f := eStr) (fun _ => rfl) C, rfl, by simp, rfl, by simp [maxLen]; omega, by simp; omega, ?_⟩; (conv => whnf)))
      all_goals (refine ⟨LG (fun j : Nat => j ≤ M.length) (fun j => M.length - j) (fun j => AS.of [(6, .one (.loc 192 0 (putAll (firstN srt (lastK p srt)) M j).length)), (8, .one (.loc 560 0 M.length)), (9, .one (.lit (.int .i64 (j : Nat))))] [(192, .row true 1 ((putAll (firstN srt (lastK p srt)) M j).map eStr)), (560, .row true 1 (M.map eStr))]), lg_init 0 (by omega) (weak_of (all_cons (eq_loc rfl (by rw [hie]; rfl)) (all_cons (eq_loc rfl (by rw [lM]; simp)) (all_cons rfl all_nil))) (all_cons (eq_row rfl (by rw [hie]; rfl)) (all_cons (eq_row rfl (by rw [← hM]; simp)) all_nil)) rfl rfl), ?body⟩)
      case body =>
        rintro σ k ⟨j, hj, rfl, rfl⟩
        have hpl := putAll_len (firstN srt (lastK p srt)) M j
        refine ⟨_, Weak.refl _, ?_⟩
        (conv => whnf)
        (split <;> rename_i h3 <;> (try simp only [decide_eq_true_eq, decide_eq_false_iff_not, Bool.not_eq_true', Bool.not_eq_false', Bool.not_eq_true, Bool.not_eq_false, List.length_map] at h3) <;> conv => whnf)
        · have hlj : j < M.length := by omega
          have hs := putAll_succ (l0 := firstN srt (lastK p srt)) hlj
          refine ⟨j, rfl, by omega, ?_⟩; (conv => whnf)
          refine ⟨_, at_map0 hlj, ?_⟩; (conv => whnf)
          by_cases hq : (putAll (firstN srt (lastK p srt)) M j)[putK (putAll (firstN srt (lastK p srt)) M j) M[j]]? = some M[j]
          · have he : putAll (firstN srt (lastK p srt)) M (j + 1) = (putAll (firstN srt (lastK p srt)) M j) := by rw [hs]; unfold putN; rw [if_pos hq]
            refine ⟨_, _, id_ok (l09Put_i (putAll (firstN srt (lastK p srt)) M j) (by omega) M[j] hq) rfl (by repeat' (first | exact lends_nil | exact lend_dead | apply lends_cons | apply lend_agg | apply lend_one | exact all2_nil | apply all2_cons | exact la_lit rfl | exact la_int (by first | rfl | omega) | exact la_row rfl rfl | exact la_loc rfl rfl rfl (by first | rfl | simp [mkL_length]) (by first | rfl | simp) | exact la_nil rfl | apply la_fn rfl | exact lend_same rfl rfl | exact lend_bor rfl rfl)), ?_⟩; (conv => whnf)
            refine ⟨((j + 1 : Nat) : Int), by rw [← wrap64_id] <;> omega, ?_⟩; (conv => whnf)
            exact lg_back (j + 1) (by omega) (by (try dsimp only); omega) (weak_of (all_cons (eq_loc rfl (by rw [he])) (all_cons rfl (all_cons rfl all_nil))) (all_cons (eq_row rfl (by rw [he])) (all_cons rfl all_nil)) rfl rfl)
          · refine ⟨_, _, fun_ok 9 (l09Put_c (putAll (firstN srt (lastK p srt)) M j) (by omega) M[j] hq) (by repeat' (first | exact lends_nil | exact lend_dead | apply lends_cons | apply lend_agg | apply lend_one | exact all2_nil | apply all2_cons | exact la_lit rfl | exact la_int (by first | rfl | omega) | exact la_row rfl rfl | exact la_loc rfl rfl rfl (by first | rfl | simp [mkL_length]) (by first | rfl | simp) | exact la_nil rfl | apply la_fn rfl | exact lend_same rfl rfl | exact lend_bor rfl rfl)) (fun x hx => by rw [List.mem_singleton.1 hx]; rfl), ?_⟩; (conv => whnf)
            refine ⟨((j + 1 : Nat) : Int), by rw [← wrap64_id] <;> omega, ?_⟩; (conv => whnf)
            exact lg_back (j + 1) (by omega) (by (try dsimp only); omega) (weak_swap 192 9 (weak_of (all_cons (eq_loc rfl (by rw [hs]; simp)) (all_cons rfl (all_cons rfl all_nil))) (all_cons (eq_row rfl (by rw [hs])) (all_cons rfl all_nil)) rfl rfl))
        · have : j = M.length := by omega
          subst this
          exact ⟨close_row rfl rfl (by simp) rfl, trivial⟩
  · skip
    have hie : i = lastK p srt := by omega
    repeat' (first
      | exact True.intro | (apply And.intro <;> conv => whnf)
      | (refine ⟨_, _, cA, ?_, ?_⟩; (focus ((repeat' (first | exact lends_nil | exact lend_dead | apply lends_cons | apply lend_agg | apply lend_one | exact all2_nil | apply all2_cons | exact la_lit rfl | exact la_int (by first | rfl | omega) | exact la_row rfl rfl | exact la_loc rfl rfl rfl (by first | rfl | simp [mkL_length]) (by first | rfl | simp) | exact la_nil rfl | apply la_fn rfl | exact lend_same rfl rfl | exact lend_bor rfl rfl)); done)); (conv => whnf))
      | (refine ⟨_, _, cB, ?_, ?_⟩; (focus ((repeat' (first | exact lends_nil | exact lend_dead | apply lends_cons | apply lend_agg | apply lend_one | exact all2_nil | apply all2_cons | exact la_lit rfl | exact la_int (by first | rfl | omega) | exact la_row rfl rfl | exact la_loc rfl rfl rfl (by first | rfl | simp [mkL_length]) (by first | rfl | simp) | exact la_nil rfl | apply la_fn rfl | exact lend_same rfl rfl | exact lend_bor rfl rfl)); done)); (conv => whnf))
      | (refine ⟨_, _, cC, ?_, ?_⟩; (focus ((repeat' (first | exact lends_nil | exact lend_dead | apply lends_cons | apply lend_agg | apply lend_one | exact all2_nil | apply all2_cons | exact la_lit rfl | exact la_int (by first | rfl | omega) | exact la_row rfl rfl | exact la_loc rfl rfl rfl (by first | rfl | simp [mkL_length]) (by first | rfl | simp) | exact la_nil rfl | apply la_fn rfl | exact lend_same rfl rfl | exact lend_bor rfl rfl)); done)); (conv => whnf))
      | (refine ⟨true, B.map eStr, ⟨rfl, ?_, rfl, ?_⟩, ?_⟩; (focus (simp; done)); (focus (rw [List.drop_zero, List.take_length])); (conv => whnf); refine ⟨_, laid_map (f := eStr) (fun _ => rfl) B, rfl, by simp, rfl, by simp [maxLen]; omega, by simp; omega, ?_⟩; (conv => whnf))
      | (refine ⟨true, C.map eStr, ⟨rfl, ?_, rfl, ?_⟩, ?_⟩; (focus (simp; done)); (focus (rw [List.drop_zero, List.take_length])); (conv => whnf); refine ⟨_, laid_map (f := eStr) (fun _ => rfl) C, rfl, by simp, rfl, by simp [maxLen]; omega, by simp; omega, ?_⟩; (conv => whnf)))
    all_goals (refine ⟨LG (fun j : Nat => j ≤ M.length) (fun j => M.length - j) (fun j => AS.of [(6, .one (.loc 192 0 (putAll (firstN srt (lastK p srt)) M j).length)), (8, .one (.loc 560 0 M.length)), (9, .one (.lit (.int .i64 (j : Nat))))] [(192, .row true 1 ((putAll (firstN srt (lastK p srt)) M j).map eStr)), (560, .row true 1 (M.map eStr))]), lg_init 0 (by omega) (weak_of (all_cons (eq_loc rfl (by rw [hie]; rfl)) (all_cons (eq_loc rfl (by rw [lM]; simp)) (all_cons rfl all_nil))) (all_cons (eq_row rfl (by rw [hie]; rfl)) (all_cons (eq_row rfl (by rw [← hM]; simp)) all_nil)) rfl rfl), ?body⟩)
    case body =>
      rintro σ k ⟨j, hj, rfl, rfl⟩
      have hpl := putAll_len (firstN srt (lastK p srt)) M j
      refine ⟨_, Weak.refl _, ?_⟩
      (conv => whnf)
      (split <;> rename_i h3 <;> (try simp only [decide_eq_true_eq, decide_eq_false_iff_not, Bool.not_eq_true', Bool.not_eq_false', Bool.not_eq_true, Bool.not_eq_false, List.length_map] at h3) <;> conv => whnf)
      · have hlj : j < M.length := by omega
        have hs := putAll_succ (l0 := firstN srt (lastK p srt)) hlj
        refine ⟨j, rfl, by omega, ?_⟩; (conv => whnf)
        refine ⟨_, at_map0 hlj, ?_⟩; (conv => whnf)
        by_cases hq : (putAll (firstN srt (lastK p srt)) M j)[putK (putAll (firstN srt (lastK p srt)) M j) M[j]]? = some M[j]
        · have he : putAll (firstN srt (lastK p srt)) M (j + 1) = (putAll (firstN srt (lastK p srt)) M j) := by rw [hs]; unfold putN; rw [if_pos hq]
          refine ⟨_, _, id_ok (l09Put_i (putAll (firstN srt (lastK p srt)) M j) (by omega) M[j] hq) rfl (by repeat' (first | exact lends_nil | exact lend_dead | apply lends_cons | apply lend_agg | apply lend_one | exact all2_nil | apply all2_cons | exact la_lit rfl | exact la_int (by first | rfl | omega) | exact la_row rfl rfl | exact la_loc rfl rfl rfl (by first | rfl | simp [mkL_length]) (by first | rfl | simp) | exact la_nil rfl | apply la_fn rfl | exact lend_same rfl rfl | exact lend_bor rfl rfl)), ?_⟩; (conv => whnf)
          refine ⟨((j + 1 : Nat) : Int), by rw [← wrap64_id] <;> omega, ?_⟩; (conv => whnf)
          exact lg_back (j + 1) (by omega) (by (try dsimp only); omega) (weak_of (all_cons (eq_loc rfl (by rw [he])) (all_cons rfl (all_cons rfl all_nil))) (all_cons (eq_row rfl (by rw [he])) (all_cons rfl all_nil)) rfl rfl)
        · refine ⟨_, _, fun_ok 9 (l09Put_c (putAll (firstN srt (lastK p srt)) M j) (by omega) M[j] hq) (by repeat' (first | exact lends_nil | exact lend_dead | apply lends_cons | apply lend_agg | apply lend_one | exact all2_nil | apply all2_cons | exact la_lit rfl | exact la_int (by first | rfl | omega) | exact la_row rfl rfl | exact la_loc rfl rfl rfl (by first | rfl | simp [mkL_length]) (by first | rfl | simp) | exact la_nil rfl | apply la_fn rfl | exact lend_same rfl rfl | exact lend_bor rfl rfl)) (fun x hx => by rw [List.mem_singleton.1 hx]; rfl), ?_⟩; (conv => whnf)
          refine ⟨((j + 1 : Nat) : Int), by rw [← wrap64_id] <;> omega, ?_⟩; (conv => whnf)
          exact lg_back (j + 1) (by omega) (by (try dsimp only); omega) (weak_swap 192 9 (weak_of (all_cons (eq_loc rfl (by rw [hs]; simp)) (all_cons rfl (all_cons rfl all_nil))) (all_cons (eq_row rfl (by rw [hs])) (all_cons rfl all_nil)) rfl rfl))
      · have : j = M.length := by omega
        subst this
        exact ⟨close_row rfl rfl (by simp) rfl, trivial⟩
end Go.Proofs.Ytlijeincckbdaaa
namespace Go.Proofs.Ytlijeincckbdaaa
open Go.RowKit
set_option linter.unusedSimpArgs false
set_option linter.unusedVariables false
set_option maxRecDepth 100000
set_option maxHeartbeats 8000000
/-- The names of those of the first i snaps that are wanted. -/
def accN (K : List ByteArray) (is : Bool) (l : List DSnap) (i : Nat) : List ByteArray := ((l.take i).filter fun s => decide (s.name ∈ K) == is).map (·.name)
theorem accN_succ (K : List ByteArray) (is : Bool) {l : List DSnap} {i : Nat} (hi : i < l.length) : accN K is l (i + 1) = accN K is l i ++ (if (decide (l[i].name ∈ K) == is) = true then [l[i].name] else []) := by
  unfold accN
  rw [List.take_succ_eq_append_getElem hi, List.filter_append, List.map_append]
  congr 1
  simp only [List.filter_cons, List.filter_nil]
  split <;> rfl
theorem accN_len (K : List ByteArray) (is : Bool) (l : List DSnap) (i : Nat) : (accN K is l i).length ≤ i := by
  unfold accN
  have := List.length_filter_le (fun s : DSnap => decide (s.name ∈ K) == is) (l.take i)
  simp at this ⊢; omega
theorem chooseN_end {p : DPolicy} {l : List DSnap} {is : Bool} (h1 : polOk p = true) (h2 : snapsOk l = true) : chooseN p l is = accN (keptN p (newest l)) is l l.length := by
  unfold chooseN accN
  rw [if_pos ⟨h1, h2⟩, List.take_length]
theorem keptN_len (p : DPolicy) (l : List DSnap) : (keptN p l).length ≤ 4 * l.length := by
  have hk : lastK p l ≤ l.length := by unfold lastK; omega
  have h1 := (first_ok (l := l) (lastK p l) hk).2
  have h2 := foldPut_len (moreN p l) (firstN l (lastK p l))
  have h3 := someN_len l p.days 1 l.length
  have h4 := someN_len l p.weeks 7 l.length
  have h5 := someN_len l p.months 30 l.length
  unfold keptN
  have : (moreN p l).length = (someN l p.days 1 l.length).length + (someN l p.weeks 7 l.length).length + (someN l p.months 30 l.length).length := by unfold moreN; simp; omega
  omega
theorem newest_length (l : List DSnap) : (newest l).length = l.length := by have := newest_take_len l l.length (Nat.le_refl _); rwa [List.take_length] at this
theorem newest_range {l : List DSnap} (h : snapsOk l = true) : ∀ s ∈ newest l, 0 ≤ s.day ∧ s.day ≤ 1000000 := fun s hs => snapsOk_mem h ((newest_mem (snapsOk_apart h)).1 hs)
theorem polOk_last {p : DPolicy} (h : polOk p = true) : 0 ≤ p.last := by
  simp only [polOk, wi, Bool.and_eq_true, decide_eq_true_eq] at h; omega
theorem forgetSpec_c (p : DPolicy) (l : List DSnap) (hl : l.length ≤ 4294967295) (hok : ∀ s ∈ l, s.ok) : Fun1 Try.prog 61 [.agg p.enc, .one (.row true 3 (l.map DSnap.enc))] (.one (.row true 1 ((chooseN p l false).map eStr))) := by
  refine fun1_of_vc tb_ok mix (fn := Try.f61) Try.func61 rfl (by kernel_rfl) (by kernel_rfl) (by simp [Try.f61]) (by show AV.nb (4 + 1) _ = true; exact nb_map (n := 4) (fun y => eStr_nbn 4 y) _) ?_
  (conv => whnf)
  (split <;> rename_i h0 <;> (try simp only [decide_eq_true_eq, decide_eq_false_iff_not, Bool.not_eq_true', Bool.not_eq_false', Bool.not_eq_true, Bool.not_eq_false, List.length_map] at h0) <;> conv => whnf)
  · have : snapsOk l = false := by simp [snapsOk]; omega
    exact ⟨close_row rfl rfl rfl (by simp [chooseN, this, chunk]), trivial⟩
  refine ⟨_, _, polSpec_c p, (by repeat' (first | exact lends_nil | exact lend_dead | apply lends_cons | apply lend_agg | apply lend_one | exact all2_nil | apply all2_cons | exact la_lit rfl | exact la_int (by first | rfl | omega) | exact la_row rfl rfl | exact la_loc rfl rfl rfl (by first | rfl | simp [mkL_length]) (by first | rfl | simp) | exact la_nil rfl | apply la_fn rfl | exact lend_same rfl rfl | exact lend_bor rfl rfl)), ?_⟩; (conv => whnf)
  (split <;> rename_i h1 <;> (try simp only [decide_eq_true_eq, decide_eq_false_iff_not, Bool.not_eq_true', Bool.not_eq_false', Bool.not_eq_true, Bool.not_eq_false, List.length_map] at h1) <;> conv => whnf)
  · exact ⟨close_row rfl rfl rfl (by simp [chooseN, h1, chunk]), trivial⟩
  refine ⟨_, _, snapsSpec_c l (by omega) hok, (by repeat' (first | exact lends_nil | exact lend_dead | apply lends_cons | apply lend_agg | apply lend_one | exact all2_nil | apply all2_cons | exact la_lit rfl | exact la_int (by first | rfl | omega) | exact la_row rfl rfl | exact la_loc rfl rfl rfl (by first | rfl | simp [mkL_length]) (by first | rfl | simp) | exact la_nil rfl | apply la_fn rfl | exact lend_same rfl rfl | exact lend_bor rfl rfl)), ?_⟩; (conv => whnf)
  (split <;> rename_i h2 <;> (try simp only [decide_eq_true_eq, decide_eq_false_iff_not, Bool.not_eq_true', Bool.not_eq_false', Bool.not_eq_true, Bool.not_eq_false, List.length_map] at h2) <;> conv => whnf)
  · exact ⟨close_row rfl rfl rfl (by simp [chooseN, h2, chunk]), trivial⟩
  have hl100 := snapsOk_len h2
  refine ⟨_, _, l13Keep_c p (polOk_last h1) l hl100 (newest_range h2), (by repeat' (first | exact lends_nil | exact lend_dead | apply lends_cons | apply lend_agg | apply lend_one | exact all2_nil | apply all2_cons | exact la_lit rfl | exact la_int (by first | rfl | omega) | exact la_row rfl rfl | exact la_loc rfl rfl rfl (by first | rfl | simp [mkL_length]) (by first | rfl | simp) | exact la_nil rfl | apply la_fn rfl | exact lend_same rfl rfl | exact lend_bor rfl rfl)), ?_⟩; (conv => whnf)
  have hKl := keptN_len p (newest l)
  rw [newest_length] at hKl
  have hend := chooseN_end (is := false) h1 h2
  rw [hend]
  refine ⟨LG (fun i : Nat => i ≤ l.length) (fun i => l.length - i) (fun i => AS.of [(1, .one (.row true 3 (l.map DSnap.enc))), (5, .one (.loc 128 0 (accN (keptN p (newest l)) false l i).length)), (6, .one (.loc 400 0 (keptN p (newest l)).length)), (7, .one (.lit (.int .i64 (i : Nat))))] [(128, .row true 1 ((accN (keptN p (newest l)) false l i).map eStr)), (400, .row true 1 ((keptN p (newest l)).map eStr))]), lg_init 0 (by omega) (weak_of (all_cons rfl (all_cons rfl (all_cons (eq_loc rfl (by simp)) (all_cons rfl all_nil)))) (by repeat (first | refine all_cons (by first | rfl | exact eq_int rfl (by first | rfl | omega | (simp; done) | (simp; omega)) | exact eq_loc rfl (by first | rfl | omega | (simp; done) | (simp; omega)) | exact eq_bool rfl (by simp_all)) ?_ | exact all_nil)) rfl rfl), ?_⟩
  rintro σ k ⟨i, hi, rfl, rfl⟩
  have hal := accN_len (keptN p (newest l)) false l i
  refine ⟨_, Weak.refl _, ?_⟩
  (conv => whnf)
  (split <;> rename_i h3 <;> (try simp only [decide_eq_true_eq, decide_eq_false_iff_not, Bool.not_eq_true', Bool.not_eq_false', Bool.not_eq_true, Bool.not_eq_false, List.length_map] at h3) <;> conv => whnf)
  · have hlt : i < l.length := by omega
    have hs := accN_succ (keptN p (newest l)) false hlt
    refine ⟨i, rfl, _, at_map hlt, ?_⟩; (conv => whnf)
    refine ⟨_, _, l07In_c (keptN p (newest l)) (by omega) l[i].name, (by repeat' (first | exact lends_nil | exact lend_dead | apply lends_cons | apply lend_agg | apply lend_one | exact all2_nil | apply all2_cons | exact la_lit rfl | exact la_int (by first | rfl | omega) | exact la_row rfl rfl | exact la_loc rfl rfl rfl (by first | rfl | simp [mkL_length]) (by first | rfl | simp) | exact la_nil rfl | apply la_fn rfl | exact lend_same rfl rfl | exact lend_bor rfl rfl)), ?_⟩; (conv => whnf)
    (split <;> rename_i h4 <;> (try simp only [decide_eq_true_eq, decide_eq_false_iff_not, Bool.not_eq_true', Bool.not_eq_false', Bool.not_eq_true, Bool.not_eq_false, List.length_map] at h4) <;> conv => whnf)
    · rw [if_pos (by rw [decide_eq_false h4]; rfl)] at hs
      refine ⟨i, rfl, _, at_map hlt, ?_⟩; (conv => whnf)
      refine ⟨true, [eStr l[i].name], ⟨rfl, by simp [chunk], rfl, by simp [chunk]; rfl⟩, ?_⟩; (conv => whnf)
      refine ⟨[eStr l[i].name], laid_map (f := eStr) (fun _ => rfl) [l[i].name], rfl, by simp [chunk], rfl, by simp [maxLen, chunk]; omega, by simp [chunk]; omega, ?_⟩; (conv => whnf)
      (refine ⟨((i + 1 : Nat) : Int), by rw [← wrap64_id] <;> omega, ?_⟩; conv => whnf)
      exact lg_back (i + 1) (by omega) (by (try dsimp only); omega) (weak_of (all_cons rfl (all_cons (eq_loc rfl (by rw [hs]; simp [chunk])) (all_cons rfl (all_cons rfl all_nil)))) (all_cons (eq_row rfl (by rw [hs]; simp [chunk])) (all_cons rfl all_nil)) rfl rfl)
    · rw [if_neg (by rw [decide_eq_true h4]; decide), List.append_nil] at hs
      (refine ⟨((i + 1 : Nat) : Int), by rw [← wrap64_id] <;> omega, ?_⟩; conv => whnf)
      exact lg_back (i + 1) (by omega) (by (try dsimp only); omega) (weak_of (all_cons rfl (all_cons (eq_loc rfl (by rw [hs])) (all_cons rfl (all_cons rfl all_nil)))) (all_cons (eq_row rfl (by rw [hs])) (all_cons rfl all_nil)) rfl rfl)
  · have : i = l.length := by omega
    subst this
    exact ⟨close_row rfl rfl (by simp) rfl, trivial⟩
/-- What the reference's Keep returns. -/
def keepR (p : DPolicy) (l : List DSnap) : List ByteArray := if polOk p = true ∧ snapsOk l = true then keptN p (newest l) else []
theorem keepSpec_c (p : DPolicy) (l : List DSnap) (hl : l.length ≤ 4294967295) (hok : ∀ s ∈ l, s.ok) : Fun1 Try.prog 75 [.agg p.enc, .one (.row true 3 (l.map DSnap.enc))] (.one (.row true 1 ((keepR p l).map eStr))) := by
  refine fun1_of_vc tb_ok mix (fn := Try.f75) Try.func75 rfl (by kernel_rfl) (by kernel_rfl) (by simp [Try.f75]) (by show AV.nb (4 + 1) _ = true; exact nb_map (n := 4) (fun y => eStr_nbn 4 y) _) ?_
  (conv => whnf)
  (split <;> rename_i h0 <;> (try simp only [decide_eq_true_eq, decide_eq_false_iff_not, Bool.not_eq_true', Bool.not_eq_false', Bool.not_eq_true, Bool.not_eq_false, List.length_map] at h0) <;> conv => whnf)
  · have : snapsOk l = false := by simp [snapsOk]; omega
    exact ⟨close_row rfl rfl rfl (by simp [keepR, this, chunk]), trivial⟩
  refine ⟨_, _, polSpec_c p, (by repeat' (first | exact lends_nil | exact lend_dead | apply lends_cons | apply lend_agg | apply lend_one | exact all2_nil | apply all2_cons | exact la_lit rfl | exact la_int (by first | rfl | omega) | exact la_row rfl rfl | exact la_loc rfl rfl rfl (by first | rfl | simp [mkL_length]) (by first | rfl | simp) | exact la_nil rfl | apply la_fn rfl | exact lend_same rfl rfl | exact lend_bor rfl rfl)), ?_⟩; (conv => whnf)
  (split <;> rename_i h1 <;> (try simp only [decide_eq_true_eq, decide_eq_false_iff_not, Bool.not_eq_true', Bool.not_eq_false', Bool.not_eq_true, Bool.not_eq_false, List.length_map] at h1) <;> conv => whnf)
  · exact ⟨close_row rfl rfl rfl (by simp [keepR, h1, chunk]), trivial⟩
  refine ⟨_, _, snapsSpec_c l (by omega) hok, (by repeat' (first | exact lends_nil | exact lend_dead | apply lends_cons | apply lend_agg | apply lend_one | exact all2_nil | apply all2_cons | exact la_lit rfl | exact la_int (by first | rfl | omega) | exact la_row rfl rfl | exact la_loc rfl rfl rfl (by first | rfl | simp [mkL_length]) (by first | rfl | simp) | exact la_nil rfl | apply la_fn rfl | exact lend_same rfl rfl | exact lend_bor rfl rfl)), ?_⟩; (conv => whnf)
  (split <;> rename_i h2 <;> (try simp only [decide_eq_true_eq, decide_eq_false_iff_not, Bool.not_eq_true', Bool.not_eq_false', Bool.not_eq_true, Bool.not_eq_false, List.length_map] at h2) <;> conv => whnf)
  · exact ⟨close_row rfl rfl rfl (by simp [keepR, h2, chunk]), trivial⟩
  have hl100 := snapsOk_len h2
  refine ⟨_, _, l13Keep_c p (polOk_last h1) l hl100 (newest_range h2), (by repeat' (first | exact lends_nil | exact lend_dead | apply lends_cons | apply lend_agg | apply lend_one | exact all2_nil | apply all2_cons | exact la_lit rfl | exact la_int (by first | rfl | omega) | exact la_row rfl rfl | exact la_loc rfl rfl rfl (by first | rfl | simp [mkL_length]) (by first | rfl | simp) | exact la_nil rfl | apply la_fn rfl | exact lend_same rfl rfl | exact lend_bor rfl rfl)), ?_⟩; (conv => whnf)
  exact ⟨close_row rfl rfl (by simp) (by simp [keepR, h1, h2]), trivial⟩
end Go.Proofs.Ytlijeincckbdaaa
namespace Go.Proofs.Ytlijeincckbdaaa
open Go.RowKit
set_option linter.unusedSimpArgs false
set_option linter.unusedVariables false
set_option maxRecDepth 100000
set_option maxHeartbeats 8000000
/-- The three kinds of time, and how many of each. -/
def byL (p : DPolicy) : List (Int × Int) := [(p.days, 1), (p.weeks, 7), (p.months, 30)]
def eBy (q : Int × Int) : List AV := [.lit (.int .i64 q.1), .lit (.int .i64 q.2)]
def keptJ (p : DPolicy) (l : List DSnap) (j : Nat) : List (ByteArray × Value) := ((byL p).take j).foldl (fun m q => (keepAt l q.1 q.2 m l.length).2) (firstM l (lastK p l))
theorem keptJ_succ {p : DPolicy} {l : List DSnap} {j : Nat} (hj : j < (byL p).length) : keptJ p l (j + 1) = (keepAt l (byL p)[j].1 (byL p)[j].2 (keptJ p l j) l.length).2 := by
  unfold keptJ
  rw [List.take_succ_eq_append_getElem hj, List.foldl_append]; rfl
theorem byL_pos (p : DPolicy) {j : Nat} (hj : j < (byL p).length) : 0 < (byL p)[j].2 := by
  match j, hj with
  | 0, _ => exact (by decide : (0 : Int) < 1)
  | 1, _ => exact (by decide : (0 : Int) < 7)
  | 2, _ => exact (by decide : (0 : Int) < 30)
  | j + 3, hj => exact absurd hj (by show ¬ j + 3 < 3; omega)
theorem keepAt_len (l : List DSnap) (many by_ : Int) (m : List (ByteArray × Value)) : ∀ i, (keepAt l many by_ m i).1.length ≤ i
  | 0 => by simp [keepAt]
  | i + 1 => by
    have := keepAt_len l many by_ m i
    by_cases hi : i < l.length
    · rw [keepAt_succ hi]
      unfold keepStep
      split
      · simp; omega
      · omega
    · have e : keepAt l many by_ m (i + 1) = keepAt l many by_ m i := by unfold keepAt; rw [List.take_of_length_le (by omega), List.take_of_length_le (by omega)]
      rw [e]; omega
/-- What kept leaves behind in the caller's state. -/
def keptR (l : List DSnap) (is : Bool) (M : List (ByteArray × Value)) (v : Value) (τ : AS) : Prop := ∃ b, v = .map (some b) ∧ τ = AS.of [(1, .one (.row true 3 (l.map DSnap.enc))), (2, .one (.lit (.bool is)))] [(304, .mapb b M)]
theorem chosen_c (p : DPolicy) (l : List DSnap) (is : Bool) (hl : l.length ≤ 4294967295) (hok : ∀ s ∈ l, s.ok) : Fun1 Try.prog 157 [.agg p.enc, .one (.row true 3 (l.map DSnap.enc)), .one (.lit (.bool is))] (.one (.row true 1 ((chooseN p l is).map eStr))) := by
  refine fun1_of_vc tb_ok mix (fn := Try.f157) Try.func157 rfl (by kernel_rfl) (by kernel_rfl) (by simp [Try.f157]) (by show AV.nb (4 + 1) _ = true; exact nb_map (n := 4) (fun y => eStr_nbn 4 y) _) ?_
  (conv => whnf)
  refine ⟨_, _, polImpl_c p, (by repeat' (first | exact lends_nil | exact lend_dead | apply lends_cons | apply lend_agg | apply lend_one | exact all2_nil | apply all2_cons | exact la_lit rfl | exact la_int (by first | rfl | omega) | exact la_row rfl rfl | exact la_loc rfl rfl rfl (by first | rfl | simp [mkL_length]) (by first | rfl | simp) | exact la_nil rfl | apply la_fn rfl | exact lend_same rfl rfl | exact lend_bor rfl rfl)), ?_⟩; (conv => whnf)
  (split <;> rename_i h1 <;> (try simp only [decide_eq_true_eq, decide_eq_false_iff_not, Bool.not_eq_true', Bool.not_eq_false', Bool.not_eq_true, Bool.not_eq_false, List.length_map] at h1) <;> conv => whnf)
  · exact ⟨close_nil (by simp [chooseN, h1]), trivial⟩
  refine ⟨_, _, snapsImpl_c l (by omega) hok, (by repeat' (first | exact lends_nil | exact lend_dead | apply lends_cons | apply lend_agg | apply lend_one | exact all2_nil | apply all2_cons | exact la_lit rfl | exact la_int (by first | rfl | omega) | exact la_row rfl rfl | exact la_loc rfl rfl rfl (by first | rfl | simp [mkL_length]) (by first | rfl | simp) | exact la_nil rfl | apply la_fn rfl | exact lend_same rfl rfl | exact lend_bor rfl rfl)), ?_⟩; (conv => whnf)
  (split <;> rename_i h2 <;> (try simp only [decide_eq_true_eq, decide_eq_false_iff_not, Bool.not_eq_true', Bool.not_eq_false', Bool.not_eq_true, Bool.not_eq_false, List.length_map] at h2) <;> conv => whnf)
  · exact ⟨close_nil (by simp [chooseN, h2]), trivial⟩
  have ha := snapsOk_apart h2
  have hl100 := snapsOk_len h2
  have hend := chooseN_end (is := is) h1 h2
  have hnl := newest_length l
  have hrng := newest_range h2
  have hlp := polOk_last h1
  refine ⟨_, inlr_ok (E := tb) (R := keptR l is (keptJ p (newest l) 3)) tb_ok mix (fn := Try.f211) Try.func211 rfl (by kernel_rfl) (by kernel_rfl) (by simp [Try.f211]) rfl (by decide) (by rintro v τ ⟨b, rfl, _⟩; rfl) ?_, ?_⟩
  · (conv => whnf)
    refine ⟨_, _, cloneSnap_c l (by omega), (by repeat' (first | exact lends_nil | exact lend_dead | apply lends_cons | apply lend_agg | apply lend_one | exact all2_nil | apply all2_cons | exact la_lit rfl | exact la_int (by first | rfl | omega) | exact la_row rfl rfl | exact la_loc rfl rfl rfl (by first | rfl | simp [mkL_length]) (by first | rfl | simp) | exact la_nil rfl | apply la_fn rfl | exact lend_same rfl rfl | exact lend_bor rfl rfl)), ?_⟩; (conv => whnf)
    refine ⟨_, _, snapSort_ok ha (eq_loc rfl (by simp)) rfl (by omega), ?_⟩; (conv => whnf)
    refine ⟨rfl, fun b => ?_⟩; (conv => whnf)
    obtain ⟨srt, hsrt⟩ : ∃ srt, newest l = srt := ⟨_, rfl⟩
    rw [hsrt] at hnl hrng
    simp only [hsrt]
    have hlk : lastK p srt ≤ srt.length := by unfold lastK; omega
    have hlk2 : ((lastK p srt : Nat) : Int) = min p.last (srt.length : Int) := by unfold lastK; omega
    refine ⟨_, _, sizeSnap_c srt, lends_cons (lend_one (la_loc rfl rfl rfl (by simp [hnl]) (by simp [← hnl]))) lends_nil, ?_⟩; (conv => whnf)
    refine ⟨by show (0:Int) ≤ 0; decide, by show (0:Int) ≤ min p.last (srt.length:Int); omega, by show min p.last (srt.length:Int) ≤ ((List.map DSnap.enc l).length : Int); rw [List.length_map]; omega, 0, lastK p srt, rfl, by show lastK p srt = (min p.last (srt.length:Int)).toNat - 0; unfold lastK; omega, ?_⟩; (conv => whnf)
    refine ⟨LG (fun i : Nat => i ≤ lastK p srt) (fun i => srt.length - i) (fun i => AS.of [(2, .one (.ptr 32 0)), (5, .one (.loc 256 0 srt.length)), (6, .one (.lit (.map (some b)))), (26, .one (.loc 256 0 (lastK p srt))), (27, .one (.lit (.int .i64 (lastK p srt : Nat)))), (28, .one (.lit (.int .i64 (i : Nat)))), (84, .one (.row true 3 (l.map DSnap.enc))), (85, .one (.lit (.bool is)))]
      [(32, .var p.enc), (256, .row true 3 (srt.map DSnap.enc)), (304, .mapb b (firstM srt i))]), lg_init 0 (by omega) (weak_of (all_cons rfl (all_cons (eq_loc rfl (by simp [hnl])) (all_cons rfl (all_cons rfl (all_cons rfl (all_cons rfl (all_cons rfl (all_cons rfl all_nil)))))))) (by repeat (first | refine all_cons (by first | rfl | exact eq_int rfl (by first | rfl | omega | (simp; done) | (simp; omega)) | exact eq_loc rfl (by first | rfl | omega | (simp; done) | (simp; omega)) | exact eq_bool rfl (by simp_all)) ?_ | exact all_nil)) rfl rfl), ?_⟩
    rintro σ k ⟨i, hi, rfl, rfl⟩
    refine ⟨_, Weak.refl _, ?_⟩
    (conv => whnf)
    (split <;> rename_i h3 <;> (try simp only [decide_eq_true_eq, decide_eq_false_iff_not, Bool.not_eq_true', Bool.not_eq_false', Bool.not_eq_true, Bool.not_eq_false, List.length_map] at h3) <;> conv => whnf)
    · have hlt : i < srt.length := by omega
      refine ⟨i, rfl, by omega, ?_⟩; (conv => whnf)
      refine ⟨_, at_map0 hlt, ?_⟩; (conv => whnf)
      refine ⟨9, 4, 304, _, _, by kernel_rfl, by kernel_rfl, rfl, rfl, ?_⟩; (conv => whnf)
      have hs := firstM_succ hlt
      refine ⟨((i + 1 : Nat) : Int), by rw [← wrap64_id] <;> omega, ?_⟩; (conv => whnf)
      exact lg_back (i + 1) (by omega) (by (try dsimp only); omega) (weak_of (by repeat (first | refine all_cons (by first | rfl | exact eq_int rfl (by first | rfl | omega | (simp; done) | (simp; omega)) | exact eq_loc rfl (by first | rfl | omega | (simp; done) | (simp; omega)) | exact eq_bool rfl (by simp_all)) ?_ | exact all_nil)) (all_cons rfl (all_cons rfl (all_cons (by rw [hs]; rfl) all_nil))) rfl rfl)
    · have : i = lastK p srt := by omega
      subst this
      refine ⟨LG (fun j : Nat => j ≤ 3) (fun j => 3 - j) (fun j => AS.of [(5, .one (.loc 256 0 srt.length)), (6, .one (.lit (.map (some b)))), (45, .one (.loc 720 0 3)), (46, .one (.lit (.int .i64 3))), (47, .one (.lit (.int .i64 (j : Nat)))), (84, .one (.row true 3 (l.map DSnap.enc))), (85, .one (.lit (.bool is)))]
        [(256, .row true 3 (srt.map DSnap.enc)), (304, .mapb b (keptJ p srt j)), (720, .row true 2 ((byL p).map eBy))]), lg_init 0 (by omega) (weak_of (by repeat (first | refine all_cons (by first | rfl | exact eq_int rfl (by first | rfl | omega | (simp; done) | (simp; omega)) | exact eq_loc rfl (by first | rfl | omega | (simp; done) | (simp; omega)) | exact eq_bool rfl (by simp_all)) ?_ | exact all_nil)) (by repeat (first | refine all_cons (by first | rfl | exact eq_int rfl (by first | rfl | omega | (simp; done) | (simp; omega)) | exact eq_loc rfl (by first | rfl | omega | (simp; done) | (simp; omega)) | exact eq_bool rfl (by simp_all)) ?_ | exact all_nil)) rfl rfl), ?_⟩
      rintro σ k ⟨j, hj, rfl, rfl⟩
      refine ⟨_, Weak.refl _, ?_⟩
      (conv => whnf)
      (split <;> rename_i h4 <;> (try simp only [decide_eq_true_eq, decide_eq_false_iff_not, Bool.not_eq_true', Bool.not_eq_false', Bool.not_eq_true, Bool.not_eq_false, List.length_map] at h4) <;> conv => whnf)
      · have hj3 : j < (byL p).length := by show j < 3; omega
        have hsJ := keptJ_succ (l := srt) hj3
        have hpos := byL_pos p hj3
        refine ⟨j, rfl, by omega, ?_⟩; (conv => whnf)
        refine ⟨_, at_map0 hj3, ?_⟩; (conv => whnf)
        obtain ⟨many, hmany⟩ : ∃ x, (byL p)[j].1 = x := ⟨_, rfl⟩
        obtain ⟨by_, hby⟩ : ∃ x, (byL p)[j].2 = x := ⟨_, rfl⟩
        simp only [hmany, hby] at hsJ hpos ⊢
        obtain ⟨M0, hM0⟩ : ∃ x, keptJ p srt j = x := ⟨_, rfl⟩
        simp only [hM0] at hsJ ⊢
        refine ⟨LG (fun i : Nat => i ≤ srt.length) (fun i => srt.length - i) (fun i => AS.of [(5, .one (.loc 256 0 srt.length)), (6, .one (.lit (.map (some b)))), (10, .one (.ptr 160 0)), (11, .one (.loc 1216 0 (keepAt srt many by_ M0 i).1.length)), (45, .one (.loc 720 0 3)), (46, .one (.lit (.int .i64 3))), (47, .one (.lit (.int .i64 (j : Nat)))), (51, .one (.loc 256 0 srt.length)), (52, .one (.lit (.int .i64 (srt.length : Nat)))), (53, .one (.lit (.int .i64 (i : Nat)))), (84, .one (.row true 3 (l.map DSnap.enc))), (85, .one (.lit (.bool is)))]
          [(160, .var [.lit (.int .i64 many), .lit (.int .i64 by_)]), (256, .row true 3 (srt.map DSnap.enc)), (304, .mapb b (keepAt srt many by_ M0 i).2), (720, .row true 2 ((byL p).map eBy)), (1216, .row true 1 ((keepAt srt many by_ M0 i).1.map eInt))]), lg_init 0 (by omega) (weak_nil 11 1216 1 rfl rfl (weak_of (by repeat (first | refine all_cons (by first | rfl | exact eq_int rfl (by first | rfl | omega | (simp; done) | (simp; omega)) | exact eq_loc rfl (by first | rfl | omega | (simp; done) | (simp; omega)) | exact eq_bool rfl (by simp_all)) ?_ | exact all_nil)) (all_cons (eq_var rfl (by simp [eBy, hmany, hby, AV.bor])) (all_cons rfl (all_cons rfl (all_cons rfl (all_cons rfl all_nil))))) rfl rfl)), ?_⟩
        rintro σ k ⟨i, hi, rfl, rfl⟩
        refine ⟨_, Weak.refl _, ?_⟩
        have hkl := keepAt_len srt many by_ M0 i
        (conv => whnf)
        (split <;> rename_i h5 <;> (try simp only [decide_eq_true_eq, decide_eq_false_iff_not, Bool.not_eq_true', Bool.not_eq_false', Bool.not_eq_true, Bool.not_eq_false, List.length_map] at h5) <;> conv => whnf)
        · have hlt : i < srt.length := by omega
          have hsK := keepAt_succ (many := many) (by_ := by_) (m := M0) hlt
          obtain ⟨st, hst⟩ : ∃ st, keepAt srt many by_ M0 i = st := ⟨_, rfl⟩
          simp only [hst] at hkl hsK ⊢
          have hday := hrng _ (List.getElem_mem hlt)
          have htd := tdiv_bnd hday.1 hday.2 hpos
          refine ⟨i, rfl, by omega, ?_⟩; (conv => whnf)
          refine ⟨_, at_map0 hlt, ?_⟩; (conv => whnf)
          refine ⟨by omega, srt[i].day.tdiv by_, by rw [← wrap64_id] <;> omega, ?_⟩; (conv => whnf)
          refine ⟨_, _, contInt_c st.1 (srt[i].day.tdiv by_) (by omega), (by repeat' (first | exact lends_nil | exact lend_dead | apply lends_cons | apply lend_agg | apply lend_one | exact all2_nil | apply all2_cons | exact la_lit rfl | exact la_int (by first | rfl | omega) | exact la_row rfl rfl | exact la_loc rfl rfl rfl (by first | rfl | simp [mkL_length]) (by first | rfl | simp) | exact la_nil rfl | apply la_fn rfl | exact lend_same rfl rfl | exact lend_bor rfl rfl)), ?_⟩; (conv => whnf)
          have hkn : st.1.contains (srt[i].day.tdiv by_) = true ∨ ¬ (st.1.length : Int) < many → keepAt srt many by_ M0 (i + 1) = st := fun h => by
            rw [hsK]; unfold keepStep
            rw [if_neg]
            rintro ⟨a, b⟩
            rcases h with h | h
            · rw [h] at a; cases a
            · exact h b
          have hky : st.1.contains (srt[i].day.tdiv by_) = false → (st.1.length : Int) < many → keepAt srt many by_ M0 (i + 1) = (st.1 ++ [srt[i].day.tdiv by_], upM st.2 srt[i].name (.bool true)) := fun h h' => by
            rw [hsK]; unfold keepStep
            rw [if_pos ⟨h, h'⟩]
          (split <;> rename_i h6 <;> (try simp only [decide_eq_true_eq, decide_eq_false_iff_not, Bool.not_eq_true', Bool.not_eq_false', Bool.not_eq_true, Bool.not_eq_false, List.length_map] at h6) <;> conv => whnf)
          · refine ⟨_, _, sizeInt_c st.1, (by repeat' (first | exact lends_nil | exact lend_dead | apply lends_cons | apply lend_agg | apply lend_one | exact all2_nil | apply all2_cons | exact la_lit rfl | exact la_int (by first | rfl | omega) | exact la_row rfl rfl | exact la_loc rfl rfl rfl (by first | rfl | simp [mkL_length]) (by first | rfl | simp) | exact la_nil rfl | apply la_fn rfl | exact lend_same rfl rfl | exact lend_bor rfl rfl)), ?_⟩; (conv => whnf)
            (split <;> rename_i h7 <;> (try simp only [decide_eq_true_eq, decide_eq_false_iff_not, Bool.not_eq_true', Bool.not_eq_false', Bool.not_eq_true, Bool.not_eq_false, List.length_map] at h7) <;> conv => whnf)
            · refine ⟨true, [eInt (srt[i].day.tdiv by_)], ⟨rfl, by simp [chunk], rfl, by simp [chunk]; rfl⟩, ?_⟩; (conv => whnf)
              refine ⟨[eInt (srt[i].day.tdiv by_)], laid_map (f := eInt) (fun _ => rfl) [srt[i].day.tdiv by_], rfl, by simp [chunk], rfl, by simp [maxLen, chunk]; omega, by simp [chunk]; omega, ?_⟩; (conv => whnf)
              refine ⟨9, 4, 304, _, _, by kernel_rfl, by kernel_rfl, rfl, rfl, ?_⟩; (conv => whnf)
              have he := hky h6 h7
              (refine ⟨((i + 1 : Nat) : Int), by rw [← wrap64_id] <;> omega, ?_⟩; conv => whnf)
              exact lg_back (i + 1) (by omega) (by (try dsimp only); omega) (weak_of (all_cons rfl (all_cons rfl (all_cons rfl (all_cons (eq_loc rfl (by rw [he]; simp [chunk])) (all_cons rfl (all_cons rfl (all_cons rfl (all_cons rfl (all_cons rfl (all_cons rfl (all_cons rfl (all_cons rfl all_nil)))))))))))) (all_cons rfl (all_cons rfl (all_cons (by rw [he]; rfl) (all_cons rfl (all_cons (eq_row rfl (by rw [he]; simp [chunk])) all_nil))))) rfl rfl)
            · have he := hkn (.inr h7)
              (refine ⟨((i + 1 : Nat) : Int), by rw [← wrap64_id] <;> omega, ?_⟩; conv => whnf)
              exact lg_back (i + 1) (by omega) (by (try dsimp only); omega) (weak_of (all_cons rfl (all_cons rfl (all_cons rfl (all_cons (eq_loc rfl (by rw [he])) (all_cons rfl (all_cons rfl (all_cons rfl (all_cons rfl (all_cons rfl (all_cons rfl (all_cons rfl (all_cons rfl all_nil)))))))))))) (all_cons rfl (all_cons rfl (all_cons (by rw [he]; rfl) (all_cons rfl (all_cons (eq_row rfl (by rw [he])) all_nil))))) rfl rfl)
          · have he := hkn (.inl h6)
            (refine ⟨((i + 1 : Nat) : Int), by rw [← wrap64_id] <;> omega, ?_⟩; conv => whnf)
            exact lg_back (i + 1) (by omega) (by (try dsimp only); omega) (weak_of (all_cons rfl (all_cons rfl (all_cons rfl (all_cons (eq_loc rfl (by rw [he])) (all_cons rfl (all_cons rfl (all_cons rfl (all_cons rfl (all_cons rfl (all_cons rfl (all_cons rfl (all_cons rfl all_nil)))))))))))) (all_cons rfl (all_cons rfl (all_cons (by rw [he]; rfl) (all_cons rfl (all_cons (eq_row rfl (by rw [he])) all_nil))))) rfl rfl)
        · have : i = srt.length := by omega
          subst this
          refine ⟨((j + 1 : Nat) : Int), by rw [← wrap64_id] <;> omega, ?_⟩; (conv => whnf)
          exact lg_back (j + 1) (by omega) (by (try dsimp only); omega) (weak_of (by repeat (first | refine all_cons (by first | rfl | exact eq_int rfl (by first | rfl | omega | (simp; done) | (simp; omega)) | exact eq_loc rfl (by first | rfl | omega | (simp; done) | (simp; omega)) | exact eq_bool rfl (by simp_all)) ?_ | exact all_nil)) (all_cons rfl (all_cons (by rw [hsJ]; rfl) (all_cons rfl all_nil))) rfl rfl)
      · have : j = 3 := by omega
        subst this
        exact ⟨_, _, ⟨b, rfl, rfl⟩, rfl, weak_of (by repeat (first | refine all_cons (by first | rfl | exact eq_int rfl (by first | rfl | omega | (simp; done) | (simp; omega)) | exact eq_loc rfl (by first | rfl | omega | (simp; done) | (simp; omega)) | exact eq_bool rfl (by simp_all)) ?_ | exact all_nil)) (by repeat (first | refine all_cons (by first | rfl | exact eq_int rfl (by first | rfl | omega | (simp; done) | (simp; omega)) | exact eq_loc rfl (by first | rfl | omega | (simp; done) | (simp; omega)) | exact eq_bool rfl (by simp_all)) ?_ | exact all_nil)) rfl rfl⟩
  · rintro σ' t ⟨_, ⟨b, rfl, rfl⟩, rfl⟩
    (conv => whnf)
    have hM : ∀ x, getM (keptJ p (newest l) 3) x = if x ∈ keptN p (newest l) then some (.bool true) else none := fun x => kept_ok (newest_days h2).1 (newest_days h2).2 x
    generalize keptJ p (newest l) 3 = M at hM ⊢
    rw [hend]
    generalize keptN p (newest l) = K at hM ⊢
    refine ⟨LG (fun i : Nat => i ≤ l.length) (fun i => l.length - i) (fun i => AS.of [(2, .one (.lit (.bool is))), (7, .one (.lit (.map (some b)))), (8, .one (.loc 608 0 (accN K is l i).length)), (22, .one (.row true 3 (l.map DSnap.enc))), (23, .one (.lit (.int .i64 (l.length : Nat)))), (24, .one (.lit (.int .i64 (i : Nat))))]
      [(304, .mapb b M), (608, .row true 1 ((accN K is l i).map eStr))]), lg_init 0 (by omega) (weak_nil 8 608 1 rfl rfl (weak_of (by repeat (first | refine all_cons (by first | rfl | exact eq_int rfl (by first | rfl | omega | (simp; done) | (simp; omega)) | exact eq_loc rfl (by first | rfl | omega | (simp; done) | (simp; omega)) | exact eq_bool rfl (by simp_all)) ?_ | exact all_nil)) (by repeat (first | refine all_cons (by first | rfl | exact eq_int rfl (by first | rfl | omega | (simp; done) | (simp; omega)) | exact eq_loc rfl (by first | rfl | omega | (simp; done) | (simp; omega)) | exact eq_bool rfl (by simp_all)) ?_ | exact all_nil)) rfl rfl)), ?_⟩
    rintro σ k ⟨i, hi, rfl, rfl⟩
    have hal := accN_len K is l i
    refine ⟨_, Weak.refl _, ?_⟩
    (conv => whnf)
    (split <;> rename_i h3 <;> (try simp only [decide_eq_true_eq, decide_eq_false_iff_not, Bool.not_eq_true', Bool.not_eq_false', Bool.not_eq_true, Bool.not_eq_false, List.length_map] at h3) <;> conv => whnf)
    · have hlt : i < l.length := by omega
      have hs := accN_succ K is hlt
      refine ⟨i, rfl, _, at_map hlt, ?_⟩; (conv => whnf)
      refine ⟨9, 4, 304, _, .bool false, .bool (decide (l[i].name ∈ K)), by kernel_rfl, by kernel_rfl, rfl, by kernel_rfl, rfl, by show (getM M l[i].name).getD (.bool false) = .bool (decide (l[i].name ∈ K)); rw [hM]; by_cases h : l[i].name ∈ K <;> simp [h], ?_⟩; (conv => whnf)
      (split <;> rename_i h4 <;> (try simp only [decide_eq_true_eq, decide_eq_false_iff_not, Bool.not_eq_true', Bool.not_eq_false', Bool.not_eq_true, Bool.not_eq_false, List.length_map] at h4) <;> conv => whnf)
      · rw [if_pos h4] at hs
        refine ⟨true, [eStr l[i].name], ⟨rfl, by simp [chunk], rfl, by simp [chunk]; rfl⟩, ?_⟩; (conv => whnf)
        refine ⟨[eStr l[i].name], laid_map (f := eStr) (fun _ => rfl) [l[i].name], rfl, by simp [chunk], rfl, by simp [maxLen, chunk]; omega, by simp [chunk]; omega, ?_⟩; (conv => whnf)
        (refine ⟨((i + 1 : Nat) : Int), by rw [← wrap64_id] <;> omega, ?_⟩; conv => whnf)
        exact lg_back (i + 1) (by omega) (by (try dsimp only); omega) (weak_of (all_cons rfl (all_cons rfl (all_cons (eq_loc rfl (by rw [hs]; simp [chunk])) (all_cons rfl (all_cons rfl (all_cons rfl all_nil)))))) (all_cons rfl (all_cons (eq_row rfl (by rw [hs]; simp [chunk])) all_nil)) rfl rfl)
      · rw [if_neg (by rw [h4]; decide), List.append_nil] at hs
        (refine ⟨((i + 1 : Nat) : Int), by rw [← wrap64_id] <;> omega, ?_⟩; conv => whnf)
        exact lg_back (i + 1) (by omega) (by (try dsimp only); omega) (weak_of (all_cons rfl (all_cons rfl (all_cons (eq_loc rfl (by rw [hs])) (all_cons rfl (all_cons rfl (all_cons rfl all_nil)))))) (all_cons rfl (all_cons (eq_row rfl (by rw [hs])) all_nil)) rfl rfl)
    · have : i = l.length := by omega
      subst this
      exact ⟨close_row rfl rfl (by simp) rfl, trivial⟩
theorem keepImpl_c (p : DPolicy) (l : List DSnap) (hl : l.length ≤ 4294967295) (hok : ∀ s ∈ l, s.ok) : Fun1 Try.prog 71 [.agg p.enc, .one (.row true 3 (l.map DSnap.enc))] (.one (.row true 1 ((chooseN p l true).map eStr))) := by
  refine fun1_of_vc tb_ok mix (fn := Try.f71) Try.func71 rfl (by kernel_rfl) (by kernel_rfl) (by simp [Try.f71]) (by show AV.nb (4 + 1) _ = true; exact nb_map (n := 4) (fun y => eStr_nbn 4 y) _) ?_
  (conv => whnf)
  refine ⟨_, _, chosen_c p l true hl hok, (by repeat' (first | exact lends_nil | exact lend_dead | apply lends_cons | apply lend_agg | apply lend_one | exact all2_nil | apply all2_cons | exact la_lit rfl | exact la_int (by first | rfl | omega) | exact la_row rfl rfl | exact la_loc rfl rfl rfl (by first | rfl | simp [mkL_length]) (by first | rfl | simp) | exact la_nil rfl | apply la_fn rfl | exact lend_same rfl rfl | exact lend_bor rfl rfl)), ?_⟩; (conv => whnf)
  exact ⟨close_row rfl rfl (by simp) rfl, trivial⟩
theorem forgetImpl_c (p : DPolicy) (l : List DSnap) (hl : l.length ≤ 4294967295) (hok : ∀ s ∈ l, s.ok) : Fun1 Try.prog 64 [.agg p.enc, .one (.row true 3 (l.map DSnap.enc))] (.one (.row true 1 ((chooseN p l false).map eStr))) := by
  refine fun1_of_vc tb_ok mix (fn := Try.f64) Try.func64 rfl (by kernel_rfl) (by kernel_rfl) (by simp [Try.f64]) (by show AV.nb (4 + 1) _ = true; exact nb_map (n := 4) (fun y => eStr_nbn 4 y) _) ?_
  (conv => whnf)
  refine ⟨_, _, chosen_c p l false hl hok, (by repeat' (first | exact lends_nil | exact lend_dead | apply lends_cons | apply lend_agg | apply lend_one | exact all2_nil | apply all2_cons | exact la_lit rfl | exact la_int (by first | rfl | omega) | exact la_row rfl rfl | exact la_loc rfl rfl rfl (by first | rfl | simp [mkL_length]) (by first | rfl | simp) | exact la_nil rfl | apply la_fn rfl | exact lend_same rfl rfl | exact lend_bor rfl rfl)), ?_⟩; (conv => whnf)
  exact ⟨close_row rfl rfl (by simp) rfl, trivial⟩
end Go.Proofs.Ytlijeincckbdaaa
