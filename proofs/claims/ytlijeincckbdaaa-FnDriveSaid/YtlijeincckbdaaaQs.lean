/- Contracts (implementation): DriveCrash, DriveRead. -/
import Derived.Test.YtlijeincckbdaaaQh
import Derived.Test.YtlijeincckbdaaaQl
import Derived.Test.YtlijeincckbdaaaQT
import Derived.Laws.StructEq
import Derived.Test.YtlijeincckbdaaaQr
namespace Go.Proofs.Ytlijeincckbdaaa
open Go.RowKit
set_option linter.unusedSimpArgs false
set_option linter.unusedVariables false
set_option maxRecDepth 100000
set_option maxHeartbeats 4000000
theorem isManyInt_c (l : List Int) : Fun1 Try.prog 125 [.one (.row true 1 (l.map eInt))] (.one (.lit (.bool (decide (400 < l.length))))) := by
  refine fun1_of_vc tb_ok mix (fn := Try.f125) Try.func125 rfl (by kernel_rfl) (by kernel_rfl) (by simp [Try.f125]) (by rfl) ?_
  (conv => whnf)
  exact ⟨close_bool (by rw [List.length_map]; exact decide_eq_decide.2 (by omega)), trivial⟩
theorem crashN_in {keep : List Int} {i : Nat} {f : DStored} (h : 0 ≤ f.synced ∧ f.synced ≤ f.text.size) : f.synced ≤ crashN keep i f ∧ crashN keep i f ≤ f.text.size := by
  unfold crashN
  split <;> omega
/-- The files behind a crash, the first so many done. -/
def crashT (keep : List Int) (fs : List DStored) (i : Nat) : List DStored := fs.mapIdx fun j f => if j < i then crashOne keep j f else f
theorem crashT_zero (keep : List Int) (fs : List DStored) : crashT keep fs 0 = fs := by
  unfold crashT
  apply List.ext_getElem?
  intro j
  simp [List.getElem?_mapIdx]
theorem crashT_len (keep : List Int) (fs : List DStored) (i : Nat) : (crashT keep fs i).length = fs.length := by simp [crashT]
theorem crashT_at {keep : List Int} {fs : List DStored} {i : Nat} (h : i < fs.length) : (crashT keep fs i)[i]'(by rw [crashT_len]; exact h) = fs[i] := by simp [crashT]
theorem crashT_succ {keep : List Int} {fs : List DStored} {i : Nat} (h : i < fs.length) : crashT keep fs (i + 1) = (crashT keep fs i).set i (crashOne keep i fs[i]) := by
  unfold crashT
  apply List.ext_getElem
  · simp
  · intro j h1 h2
    rw [List.getElem_set]
    split
    · rename_i e; subst e; simp
    · rename_i e
      simp only [List.getElem_mapIdx]
      by_cases h3 : j < i
      · rw [if_pos (by omega), if_pos h3]
      · rw [if_neg (by omega), if_neg h3]
theorem crashT_all (keep : List Int) (fs : List DStored) : crashT keep fs fs.length = fs.mapIdx (crashOne keep) := by
  unfold crashT
  apply List.ext_getElem
  · simp
  · intro j h1 h2
    simp only [List.length_mapIdx] at h1
    simp only [List.getElem_mapIdx, if_pos h1]
theorem crashed_c (x : DDrive) (hx : x.ok) (hd : driveOk x = true) (keep : List Int) (hk : ∀ k ∈ keep, inI k) (hkl : keep.length ≤ 400) : Fun1 Try.prog 126 [.agg x.enc, .one (.row true 1 (keep.map eInt))] (.agg (crash keep x).enc) := by
  have hx' := hx
  obtain ⟨⟨hl, hf⟩, hr⟩ := hx
  obtain ⟨q1, q2, q3, q4, q5, q6⟩ := (driveOk_iff x).1 hd
  refine fun1_of_vc tb_ok mix (fn := Try.f126) Try.func126 rfl (by kernel_rfl) (by kernel_rfl) (by simp [Try.f126]) (by exact DDrive.enc_nb _) ?_
  (conv => whnf)
  refine ⟨_, _, copied_c x hx', (by repeat' (first | exact lends_nil | exact lend_dead | apply lends_cons | apply lend_agg | apply lend_one | exact all2_nil | apply all2_cons | exact la_lit rfl | exact la_int (by first | rfl | omega) | exact la_row rfl rfl | exact la_loc rfl rfl rfl (by first | rfl | simp [mkL_length]) (by first | rfl | simp) | exact la_nil rfl | apply la_fn rfl | exact lend_same rfl rfl | exact lend_bor rfl rfl)), ?_⟩; (conv => whnf)
  refine ⟨LG (fun i : Nat => i ≤ x.files.length) (fun i => x.files.length - i)
      (fun i => AS.of [(1, .one (.row true 1 (keep.map eInt))), (4, .one (.ptr 64 0)), (5, .one (.ptr 80 0)), (12, .one (.loc 160 0 x.files.length)), (13, .one (.lit (.int .i64 (x.files.length : Nat)))), (14, .one (.lit (.int .i64 (i : Nat))))]
        [(64, .var [.lit (.slice none 0 0), .lit (.int .i64 0)]), (80, .var [.loc 160 0 x.files.length, .lit (.int .i64 x.room)]), (160, .row true 3 ((crashT keep x.files i).map DStored.enc))]),
    lg_init 0 (Nat.zero_le _) (weak_of (all_cons rfl (all_cons rfl (all_cons rfl (all_cons (eq_loc rfl (by simp)) (all_cons (eq_int rfl (by simp)) (all_cons rfl all_nil)))))) (all_cons rfl (all_cons (eq_var (xs := [.loc 160 0 (x.files.map DStored.enc).length, .lit (.int .i64 x.room)]) rfl (by simp)) (all_cons (eq_row rfl (by rw [crashT_zero])) all_nil))) rfl rfl), ?_⟩
  rintro σ k ⟨i, hi, rfl, rfl⟩
  refine ⟨_, Weak.refl _, ?_⟩
  (conv => whnf)
  (split <;> rename_i h <;> (try simp only [decide_eq_true_eq, decide_eq_false_iff_not, Bool.not_eq_true', Bool.not_eq_false', Bool.not_eq_true, Bool.not_eq_false, List.length_map] at h) <;> conv => whnf)
  · have hlt : i < x.files.length := by omega
    have hlt' : i < (crashT keep x.files i).length := by rw [crashT_len]; exact hlt
    obtain ⟨f, hfe⟩ : ∃ f, x.files[i] = f := ⟨_, rfl⟩
    have hci : (crashT keep x.files i)[i] = f := by rw [crashT_at hlt]; exact hfe
    have hfo : fileOk f := by rw [← hfe]; exact q4 _ (List.getElem_mem hlt)
    obtain ⟨g1, g2, g3, g4⟩ := hfo
    have hcn := crashN_in (keep := keep) (i := i) ⟨g3, g4⟩
    refine ⟨i, rfl, hlt, ?_⟩; (conv => whnf)
    refine ⟨_, at_map0 hlt', ?_⟩; rw [hci]; (conv => whnf)
    (split <;> rename_i h2 <;> (try simp only [decide_eq_true_eq, decide_eq_false_iff_not, Bool.not_eq_true', Bool.not_eq_false', Bool.not_eq_true, Bool.not_eq_false, List.length_map] at h2) <;> conv => whnf)
    · have hk2 : i < keep.length := by omega
      have hki := hk _ (List.getElem_mem hk2)
      unfold inI at hki
      refine ⟨i, rfl, _, at_map hk2, ?_⟩; (conv => whnf)
      (split <;> rename_i h3 <;> (try simp only [decide_eq_true_eq, decide_eq_false_iff_not, Bool.not_eq_true', Bool.not_eq_false', Bool.not_eq_true, Bool.not_eq_false, List.length_map] at h3) <;> conv => whnf)
      · have hcv : crashN keep i f = f.synced + min keep[i] (f.text.size - f.synced) := by unfold crashN; rw [List.getElem?_eq_getElem hk2, Option.getD_some, if_pos h3]
        refine ⟨i, rfl, _, at_map hk2, ?_⟩; (conv => whnf)
        refine ⟨_, _, long_c f.text, (by repeat' (first | exact lends_nil | exact lend_dead | apply lends_cons | apply lend_agg | apply lend_one | exact all2_nil | apply all2_cons | exact la_lit rfl | exact la_int (by first | rfl | omega) | exact la_row rfl rfl | exact la_loc rfl rfl rfl (by first | rfl | simp [mkL_length]) (by first | rfl | simp) | exact la_nil rfl | apply la_fn rfl | exact lend_same rfl rfl | exact lend_bor rfl rfl)), ?_⟩; (conv => whnf)
        refine ⟨(f.text.size : Int) - f.synced, by rw [← wrap64_id] <;> omega, ?_⟩; (conv => whnf)
        rw [hcv] at hcn
        refine ⟨f.synced + min keep[i] (f.text.size - f.synced), wrap64_id (by omega) (by omega), ?_⟩; (conv => whnf)
        refine ⟨by decide, by simp; omega, by simp; omega, _, rfl, ?_⟩; (conv => whnf)
        refine ⟨i, rfl, hlt, ?_⟩; (conv => whnf)
        refine ⟨_, at_map0 hlt', ?_⟩; (conv => whnf)
        refine ⟨((crashT keep x.files i).set i (crashOne keep i f)).map DStored.enc, set_enc0 (by simp only [crashOne, DStored.enc, hcv]; rfl), ?_⟩; (conv => whnf)
        (refine ⟨((i + 1 : Nat) : Int), by rw [← wrap64_id] <;> omega, ?_⟩; conv => whnf)
        exact lg_back (i + 1) (by omega) (by (try dsimp only); omega) (weak_of (by repeat (first | refine all_cons (by first | rfl | exact eq_int rfl (by first | rfl | omega | (simp; done) | (simp; omega)) | exact eq_loc rfl (by first | rfl | omega | (simp; done) | (simp; omega)) | exact eq_bool rfl (by simp_all)) ?_ | exact all_nil)) (all_cons rfl (all_cons rfl (all_cons (eq_row rfl (by rw [crashT_succ hlt, hfe])) all_nil))) rfl rfl)
      · have hcv : crashN keep i f = f.synced := by unfold crashN; rw [List.getElem?_eq_getElem hk2, Option.getD_some, if_neg h3]; omega
        rw [hcv] at hcn
        refine ⟨by decide, by simp; omega, by simp; omega, _, rfl, ?_⟩; (conv => whnf)
        refine ⟨i, rfl, hlt, ?_⟩; (conv => whnf)
        refine ⟨_, at_map0 hlt', ?_⟩; (conv => whnf)
        refine ⟨((crashT keep x.files i).set i (crashOne keep i f)).map DStored.enc, set_enc0 (by simp only [crashOne, DStored.enc, hcv]; rfl), ?_⟩; (conv => whnf)
        (refine ⟨((i + 1 : Nat) : Int), by rw [← wrap64_id] <;> omega, ?_⟩; conv => whnf)
        exact lg_back (i + 1) (by omega) (by (try dsimp only); omega) (weak_of (by repeat (first | refine all_cons (by first | rfl | exact eq_int rfl (by first | rfl | omega | (simp; done) | (simp; omega)) | exact eq_loc rfl (by first | rfl | omega | (simp; done) | (simp; omega)) | exact eq_bool rfl (by simp_all)) ?_ | exact all_nil)) (all_cons rfl (all_cons rfl (all_cons (eq_row rfl (by rw [crashT_succ hlt, hfe])) all_nil))) rfl rfl)
    · have hk2 : keep.length ≤ i := by omega
      have hcv : crashN keep i f = f.synced := by unfold crashN; rw [List.getElem?_eq_none hk2, Option.getD_none, if_neg (by decide)]; omega
      rw [hcv] at hcn
      refine ⟨by decide, by simp; omega, by simp; omega, _, rfl, ?_⟩; (conv => whnf)
      refine ⟨i, rfl, hlt, ?_⟩; (conv => whnf)
      refine ⟨_, at_map0 hlt', ?_⟩; (conv => whnf)
      refine ⟨((crashT keep x.files i).set i (crashOne keep i f)).map DStored.enc, set_enc0 (by simp only [crashOne, DStored.enc, hcv]; rfl), ?_⟩; (conv => whnf)
      (refine ⟨((i + 1 : Nat) : Int), by rw [← wrap64_id] <;> omega, ?_⟩; conv => whnf)
      exact lg_back (i + 1) (by omega) (by (try dsimp only); omega) (weak_of (by repeat (first | refine all_cons (by first | rfl | exact eq_int rfl (by first | rfl | omega | (simp; done) | (simp; omega)) | exact eq_loc rfl (by first | rfl | omega | (simp; done) | (simp; omega)) | exact eq_bool rfl (by simp_all)) ?_ | exact all_nil)) (all_cons rfl (all_cons rfl (all_cons (eq_row rfl (by rw [crashT_succ hlt, hfe])) all_nil))) rfl rfl)
  · have : i = x.files.length := by omega
    subst this
    have hc : (crash keep x).files = crashT keep x.files x.files.length := (crashT_all keep x.files).symm
    exact ⟨close_row rfl rfl (by simp [crashT_len]) (by rw [hc]), close_int rfl, trivial⟩
theorem driveCrash_c (x : DDrive) (hx : x.ok) (hd : driveOk x = true) (keep : List Int) (hk : ∀ k ∈ keep, inI k) (hkl : keep.length ≤ 400) : Fun1 Try.prog 38 [.agg x.enc, .one (.row true 1 (keep.map eInt))] (.agg (crash keep x).enc) := by
  have hu : usedN x.files ≤ 1000000000000 := by
    have := ((driveOk_iff _).1 hd).2.2
    omega
  refine fun1_of_vc tb_ok mix (fn := Try.f38) Try.func38 rfl (by kernel_rfl) (by kernel_rfl) (by simp [Try.f38]) (by exact DDrive.enc_nb _) ?_
  (conv => whnf)
  refine ⟨_, _, isManyInt_c keep, (by repeat' (first | exact lends_nil | exact lend_dead | apply lends_cons | apply lend_agg | apply lend_one | exact all2_nil | apply all2_cons | exact la_lit rfl | exact la_int (by first | rfl | omega) | exact la_row rfl rfl | exact la_loc rfl rfl rfl (by first | rfl | simp [mkL_length]) (by first | rfl | simp) | exact la_nil rfl | apply la_fn rfl | exact lend_same rfl rfl | exact lend_bor rfl rfl)), ?_⟩; (conv => whnf)
  (split <;> rename_i h1 <;> (try simp only [decide_eq_true_eq, decide_eq_false_iff_not, Bool.not_eq_true', Bool.not_eq_false', Bool.not_eq_true, Bool.not_eq_false, List.length_map] at h1) <;> conv => whnf)
  · omega
  refine ⟨_, _, driveImpl_c x hx hu, (by repeat' (first | exact lends_nil | exact lend_dead | apply lends_cons | apply lend_agg | apply lend_one | exact all2_nil | apply all2_cons | exact la_lit rfl | exact la_int (by first | rfl | omega) | exact la_row rfl rfl | exact la_loc rfl rfl rfl (by first | rfl | simp [mkL_length]) (by first | rfl | simp) | exact la_nil rfl | apply la_fn rfl | exact lend_same rfl rfl | exact lend_bor rfl rfl)), ?_⟩; (conv => whnf)
  (split <;> rename_i h2 <;> (try simp only [decide_eq_true_eq, decide_eq_false_iff_not, Bool.not_eq_true', Bool.not_eq_false', Bool.not_eq_true, Bool.not_eq_false, List.length_map] at h2) <;> conv => whnf)
  · rw [hd] at h2; cases h2
  · refine ⟨_, _, crashed_c x hx hd keep hk hkl, (by repeat' (first | exact lends_nil | exact lend_dead | apply lends_cons | apply lend_agg | apply lend_one | exact all2_nil | apply all2_cons | exact la_lit rfl | exact la_int (by first | rfl | omega) | exact la_row rfl rfl | exact la_loc rfl rfl rfl (by first | rfl | simp [mkL_length]) (by first | rfl | simp) | exact la_nil rfl | apply la_fn rfl | exact lend_same rfl rfl | exact lend_bor rfl rfl)), ?_⟩; (conv => whnf)
    exact ⟨close_row rfl rfl (by simp) (by simp), close_int rfl, trivial⟩
theorem driveRead_c (x : DDrive) (hx : x.ok) (hd : driveOk x = true) (f : DStored) (hf : f ∈ x.files) : Fun1 Try.prog 40 [.agg x.enc, .one (.lit (.string f.name))] (.agg [.lit (.string f.text), .lit (.int .i64 0)]) := by
  have hx' := hx
  obtain ⟨⟨hl, hff⟩, hr⟩ := hx
  obtain ⟨q1, q2, q3, q4, q5, q6⟩ := (driveOk_iff x).1 hd
  have hu : usedN x.files ≤ 1000000000000 := by omega
  have hn := (q4 f hf).1
  have hsz : ¬ 20000 < (f.name.size : Int) := by
    unfold nameOk at hn
    simp only [Bool.and_eq_true, decide_eq_true_eq] at hn
    omega
  have hh : hasN x.files f.name = true := by
    unfold hasN
    rw [List.any_eq_true]
    exact ⟨f, hf, decide_eq_true rfl⟩
  obtain ⟨hp, _, hname⟩ := findI_eq hd hh
  have hfe : x.files[findP x.files f.name] = f := by
    obtain ⟨i, hi, he⟩ := List.mem_iff_getElem.1 hf
    have hsi := List.pairwise_iff_getElem.1 q5
    rcases Nat.lt_trichotomy i (findP x.files f.name) with h1 | h1 | h1
    · have := hsi _ _ hi hp h1
      rw [he, hname, bLt_irrefl] at this; cases this
    · subst h1; exact he
    · have := hsi _ _ hp hi h1
      rw [he, hname, bLt_irrefl] at this; cases this
  refine fun1_of_vc tb_ok mix (fn := Try.f40) Try.func40 rfl (by kernel_rfl) (by kernel_rfl) (by simp [Try.f40]) (by rfl) ?_
  (conv => whnf)
  refine ⟨_, _, isLong_c f.name, (by repeat' (first | exact lends_nil | exact lend_dead | apply lends_cons | apply lend_agg | apply lend_one | exact all2_nil | apply all2_cons | exact la_lit rfl | exact la_int (by first | rfl | omega) | exact la_row rfl rfl | exact la_loc rfl rfl rfl (by first | rfl | simp [mkL_length]) (by first | rfl | simp) | exact la_nil rfl | apply la_fn rfl | exact lend_same rfl rfl | exact lend_bor rfl rfl)), ?_⟩; (conv => whnf)
  (split <;> rename_i h1 <;> (try simp only [decide_eq_true_eq, decide_eq_false_iff_not, Bool.not_eq_true', Bool.not_eq_false', Bool.not_eq_true, Bool.not_eq_false, List.length_map] at h1) <;> conv => whnf)
  · exact absurd h1 hsz
  refine ⟨_, _, driveImpl_c x hx' hu, (by repeat' (first | exact lends_nil | exact lend_dead | apply lends_cons | apply lend_agg | apply lend_one | exact all2_nil | apply all2_cons | exact la_lit rfl | exact la_int (by first | rfl | omega) | exact la_row rfl rfl | exact la_loc rfl rfl rfl (by first | rfl | simp [mkL_length]) (by first | rfl | simp) | exact la_nil rfl | apply la_fn rfl | exact lend_same rfl rfl | exact lend_bor rfl rfl)), ?_⟩; (conv => whnf)
  (split <;> rename_i h2 <;> (try simp only [decide_eq_true_eq, decide_eq_false_iff_not, Bool.not_eq_true', Bool.not_eq_false', Bool.not_eq_true, Bool.not_eq_false, List.length_map] at h2) <;> conv => whnf)
  · rw [hd] at h2; cases h2
  refine ⟨_, _, find_c x hd f.name hl, (by repeat' (first | exact lends_nil | exact lend_dead | apply lends_cons | apply lend_agg | apply lend_one | exact all2_nil | apply all2_cons | exact la_lit rfl | exact la_int (by first | rfl | omega) | exact la_row rfl rfl | exact la_loc rfl rfl rfl (by first | rfl | simp [mkL_length]) (by first | rfl | simp) | exact la_nil rfl | apply la_fn rfl | exact lend_same rfl rfl | exact lend_bor rfl rfl)), ?_⟩; (conv => whnf)
  (split <;> rename_i h3 <;> (try simp only [decide_eq_true_eq, decide_eq_false_iff_not, Bool.not_eq_true', Bool.not_eq_false', Bool.not_eq_true, Bool.not_eq_false, List.length_map] at h3) <;> conv => whnf)
  · rw [hh] at h3; cases h3
  refine ⟨findP x.files f.name, rfl, _, at_map hp, ?_⟩; rw [hfe]; (conv => whnf)
  exact ⟨close_str rfl, close_int rfl, trivial⟩
end Go.Proofs.Ytlijeincckbdaaa
namespace Go.Proofs.Ytlijeincckbdaaa
open Go.RowKit
set_option linter.unusedSimpArgs false
set_option linter.unusedVariables false
theorem extract_size {t : ByteArray} {n : Int} (h : 0 ≤ n ∧ n ≤ t.size) : (t.extract 0 n.toNat).size = n.toNat := by
  rw [ByteArray.size_extract]; omega
theorem crash_right {d : DDrive} (hd : driveOk d = true) (keep : List Int) : driveOk (crash keep d) = true := by
  obtain ⟨q1, q2, q3, q4, q5, q6⟩ := (driveOk_iff d).1 hd
  have hat : ∀ i (h : i < d.files.length), fileOk d.files[i] ∧ 0 ≤ crashN keep i d.files[i] ∧ crashN keep i d.files[i] ≤ d.files[i].text.size ∧ (crashOne keep i d.files[i]).text.size = (crashN keep i d.files[i]).toNat := fun i h => by
    have hf := q4 _ (List.getElem_mem h)
    have hc := crashN_in (keep := keep) (i := i) ⟨hf.2.2.1, hf.2.2.2⟩
    have h0 := hf.2.2.1
    exact ⟨hf, by omega, hc.2, extract_size ⟨by omega, hc.2⟩⟩
  have hused : ∀ (fs : List DStored) (k : Nat), (∀ i (h : i < fs.length), (crashOne keep (k + i) fs[i]).text.size ≤ fs[i].text.size) → usedN (fs.mapIdx fun i f => crashOne keep (k + i) f) ≤ usedN fs := by
    intro fs
    induction fs with
    | nil => intro k _; exact Nat.le_refl _
    | cons f fs ih =>
      intro k h
      have h0 := h 0 (by simp)
      have h1 := ih (k + 1) fun i hi => by have := h (i + 1) (by simpa using hi); simpa [Nat.add_assoc, Nat.add_comm 1 i] using this
      have e : (List.mapIdx (fun i f => crashOne keep (k + i) f) (f :: fs)) = crashOne keep k f :: fs.mapIdx (fun i f => crashOne keep (k + 1 + i) f) := by
        rw [List.mapIdx_cons]; simp [Nat.add_assoc, Nat.add_comm 1]
      rw [e]
      unfold usedN at h1 ⊢
      simp only [List.map_cons, List.sum_cons] at h0 ⊢
      simp only [Nat.add_zero, List.getElem_cons_zero] at h0
      omega
  refine (driveOk_iff _).2 ⟨by simpa [crash] using q1, q2, q3, fun f hf => ?_, ?_, ?_⟩
  · obtain ⟨i, hi, rfl⟩ := List.mem_iff_getElem.1 hf
    have hi' : i < d.files.length := by simpa [crash] using hi
    obtain ⟨h1, h2, h3, h4⟩ := hat i hi'
    have e : (crash keep d).files[i] = crashOne keep i d.files[i] := by simp [crash]
    rw [e]
    refine ⟨h1.1, by rw [h4]; have := h1.2.1; omega, h2, ?_⟩
    rw [h4]
    show crashN keep i d.files[i] ≤ _
    omega
  · rw [List.pairwise_iff_getElem] at q5 ⊢
    intro i j hi hj hij
    have hi' : i < d.files.length := by simpa [crash] using hi
    have hj' : j < d.files.length := by simpa [crash] using hj
    have e1 : (crash keep d).files[i] = crashOne keep i d.files[i] := by simp [crash]
    have e2 : (crash keep d).files[j] = crashOne keep j d.files[j] := by simp [crash]
    rw [e1, e2]
    exact q5 i j hi' hj' hij
  · have := hused d.files 0 fun i h => by
      obtain ⟨h1, h2, h3, h4⟩ := hat i h
      rw [Nat.zero_add, h4]; omega
    have e : (crash keep d).files = d.files.mapIdx fun i f => crashOne keep (0 + i) f := by simp [crash]
    show ((usedN (crash keep d).files : Nat) : Int) ≤ d.room
    rw [e]; omega
theorem sorted_eq {l : List DStored} (hs : Sorted l) {f g : DStored} (hf : f ∈ l) (hg : g ∈ l) (h : f.name = g.name) : f = g := by
  obtain ⟨i, hi, rfl⟩ := List.mem_iff_getElem.1 hf
  obtain ⟨j, hj, rfl⟩ := List.mem_iff_getElem.1 hg
  have hsi := List.pairwise_iff_getElem.1 hs
  rcases Nat.lt_trichotomy i j with h1 | h1 | h1
  · have := hsi i j hi hj h1
    rw [h, bLt_irrefl] at this; cases this
  · subst h1; rfl
  · have := hsi j i hj hi h1
    rw [h, bLt_irrefl] at this; cases this
theorem insL_keeps {l : List DStored} {f g : DStored} (hg : g ∈ l) (hne : g.name ≠ f.name) : g ∈ insL l f := by
  unfold insL
  obtain ⟨i, hi, rfl⟩ := List.mem_iff_getElem.1 hg
  rw [List.mem_append, List.mem_append]
  rcases Nat.lt_or_ge i (inK l f.name) with h | h
  · exact .inl (.inl (List.mem_iff_getElem.2 ⟨i, by simp; omega, by simp⟩))
  · right
    have hcase : inK l f.name + (if isAt l (inK l f.name) f.name = true then 1 else 0) ≤ i := by
      split
      · rename_i hat
        rcases Nat.lt_or_ge (inK l f.name) i with h1 | h1
        · omega
        · have e : i = inK l f.name := by omega
          exfalso
          unfold isAt at hat
          rw [← e, List.getElem?_eq_getElem hi] at hat
          exact hne (of_decide_eq_true hat)
      · omega
    exact List.mem_iff_getElem.2 ⟨i - (inK l f.name + (if isAt l (inK l f.name) f.name = true then 1 else 0)), by simp; omega, by rw [List.getElem_drop]; congr 1; omega⟩
theorem cutL_keeps {l : List DStored} {p : Nat} {g : DStored} (hg : g ∈ l) (hp : ∀ h : p < l.length, l[p] ≠ g) : g ∈ cutL l p := by
  obtain ⟨i, hi, rfl⟩ := List.mem_iff_getElem.1 hg
  unfold cutL
  rw [List.mem_append]
  rcases Nat.lt_trichotomy i p with h | h | h
  · exact .inl (List.mem_iff_getElem.2 ⟨i, by simp; omega, by simp⟩)
  · subst h; exact absurd rfl (hp hi)
  · exact .inr (List.mem_iff_getElem.2 ⟨i - (p + 1), by simp; omega, by rw [List.getElem_drop]; congr 1; omega⟩)
/-- An op leaves files of other names as they are. -/
theorem doF_keeps {x : DDrive} (hd : driveOk x = true) {o : DOp} (hc : (doF x o).code = 0) {f : DStored} (hf : f ∈ x.files) (h1 : f.name ≠ o.name) (h2 : f.name ≠ o.to) : f ∈ (doF x o).drive.files := by
  unfold doF at hc ⊢
  split at hc
  · rename_i hk
    rw [if_pos hk]
    split at hc
    · cases hc
    · rename_i hh
      rw [if_neg hh]
      split at hc
      · cases hc
      · rename_i hl
        rw [if_neg hl]
        exact insL_keeps hf h1
  · rename_i hk
    rw [if_neg hk]
    split at hc
    · rename_i hh
      rw [if_pos hh]
      obtain ⟨hp, _, hname⟩ := findI_eq hd hh
      rw [List.getElem?_eq_getElem hp] at hc ⊢
      simp only at hc ⊢
      have hne : x.files[findP x.files o.name] ≠ f := fun e => h1 (by rw [← e]; exact hname)
      split at hc
      · rename_i hk2
        rw [if_pos hk2]
        obtain ⟨i, hi, rfl⟩ := List.mem_iff_getElem.1 hf
        have hip : findP x.files o.name ≠ i := fun e => by subst e; exact hne rfl
        exact List.mem_iff_getElem.2 ⟨i, by simpa using hi, by simp only; rw [List.getElem_set, if_neg hip]⟩
      · rename_i hk2
        rw [if_neg hk2]
        split at hc
        · rename_i hk3
          rw [if_pos hk3]
          split at hc
          · rename_i he
            rw [if_pos he]; exact hf
          · rename_i he
            rw [if_neg he]
            exact insL_keeps (cutL_keeps hf fun h => hne) h2
        · rename_i hk3
          rw [if_neg hk3]
          exact cutL_keeps hf fun h => hne
    · cases hc
def readF (d : DDrive) (name : ByteArray) : ByteArray × Int :=
  if 20000 < name.size then (⟨#[]⟩, 2) else if driveOk d = true then (if hasN d.files name = true then (match d.files[findP d.files name]? with | some f => (f.text, 0) | none => (⟨#[]⟩, 8)) else (⟨#[]⟩, 8)) else (⟨#[]⟩, 1)
theorem readF_of {d : DDrive} (hd : driveOk d = true) {f : DStored} (hf : f ∈ d.files) : readF d f.name = (f.text, 0) := by
  obtain ⟨q1, q2, q3, q4, q5, q6⟩ := (driveOk_iff d).1 hd
  have hn := (q4 f hf).1
  have hsz : ¬ 20000 < f.name.size := by
    unfold nameOk at hn
    simp only [Bool.and_eq_true, decide_eq_true_eq] at hn
    omega
  have hh : hasN d.files f.name = true := by
    unfold hasN
    rw [List.any_eq_true]
    exact ⟨f, hf, decide_eq_true rfl⟩
  obtain ⟨hp, _, hname⟩ := findI_eq hd hh
  have := sorted_eq q5 (List.getElem_mem hp) hf hname
  unfold readF
  rw [if_neg hsz, if_pos hd, if_pos hh, List.getElem?_eq_getElem hp, this]
end Go.Proofs.Ytlijeincckbdaaa
namespace Go.Proofs.Ytlijeincckbdaaa
open Go.RowKit
theorem fields_data : (Try.prog.fieldsOf 67).toList.map (fun f => (f.name == "_", f.type, f.offset)) = [(false, 9, 0), (false, 2, 1)] := by kernel_rfl
theorem eq_data (a : ByteArray) (c : Int) (w : World) : (binOp .neq 67 (.agg #[.string a, .int .i64 c]) (.agg #[.string a, .int .i64 c])).run Try.prog w = .ok (.bool false) w := by
  have hu : Try.prog.underlying 67 = some (.struct (Try.prog.fieldsOf 67)) := by kernel_rfl
  have hp : Try.prog.stoodInHeld 67 = false := by kernel_rfl
  rw [run_neq_struct, run_equalIn_struct w 9999 _ _ _ hu hp]
  have key : (Op.eqFields 9999 #[.string a, .int .i64 c] #[.string a, .int .i64 c] (Try.prog.fieldsOf 67).toList).run Try.prog w = .ok true w := by
    have h := fields_data
    generalize (Try.prog.fieldsOf 67).toList = fs at h
    obtain ⟨f, g, rfl⟩ : ∃ f g, fs = [f, g] := by
      rcases fs with _ | ⟨f, _ | ⟨g, _ | ⟨k, fs⟩⟩⟩
      · simp at h
      · simp at h
      · exact ⟨f, g, rfl⟩
      · simp at h
    simp only [List.map_cons, List.map_nil, List.cons.injEq, Prod.mk.injEq, beq_eq_false_iff_ne, and_true] at h
    obtain ⟨⟨f1, f2, f3⟩, g1, g2, g3⟩ := h
    have t1 : tyI Try.prog 9 = some (1, false) := by kernel_rfl
    have t2 : tyI Try.prog 2 = some (1, false) := by kernel_rfl
    have u1 : Try.prog.underlying 9 = some .string := by kernel_rfl
    have u2 : Try.prog.underlying 2 = some (.int .i64) := by kernel_rfl
    have p1 : (part 9 #[.string a, .int .i64 c] 0).run Try.prog w = .ok (.string a) w := run_part (P := Try.prog) t1 #[.string a, .int .i64 c] 0 (by show 1 ≤ 2; decide) w
    have p2 : (part 2 #[.string a, .int .i64 c] 1).run Try.prog w = .ok (.int .i64 c) w := run_part (P := Try.prog) t2 #[.string a, .int .i64 c] 1 (by show 2 ≤ 2; decide) w
    have e1 : (Op.equalIn 9999 9 (.string a) (.string a)).run Try.prog w = .ok true w := by rw [run_equalIn_string w 9998 9 a a u1]; simp
    have e2 : (Op.equalIn 9999 2 (.int .i64 c) (.int .i64 c)).run Try.prog w = .ok true w := by rw [run_equalIn_int w 9998 2 .i64 .i64 c c u2]; simp
    simp only [Op.eqFields, ne_eq, f1, g1, not_false_eq_true, if_true, f2, f3, g2, g3, Sem.run_bind, p1, p2, e1, e2, Result.andThen_ok, Bool.not_true, Bool.false_eq_true, if_false, Sem.run_pure]
  rw [key]; rfl
theorem guard_data : Try.prog.eqGuardType Try.prog.depth 67 = false := by kernel_rfl
end Go.Proofs.Ytlijeincckbdaaa
namespace Go.Proofs.Ytlijeincckbdaaa
open Go.RowKit
set_option linter.unusedSimpArgs false
set_option linter.unusedVariables false
set_option maxRecDepth 100000
set_option maxHeartbeats 8000000
theorem fnDrive_c (l m : List UInt8) (hl0 : l.length ≤ 9223372036854775807) (hm0 : m.length ≤ 9223372036854775807) :
    Fun1 Try.prog 6 [.one (.row true 1 (l.map byteE)), .one (.row true 1 (m.map byteE))] (.one (.lit (.bool true))) := by
  refine law_row2 (E := tb) tb_ok mix (fn := Try.f6) Try.func6 rfl (by kernel_rfl) (by kernel_rfl) (by simp [Try.f6]) rfl fun A cap A2 cap2 => ?_
  simp only [List.length_map]
  (conv => whnf)
  (split <;> rename_i hl <;> (try simp only [decide_eq_true_eq, decide_eq_false_iff_not, Bool.not_eq_true', Bool.not_eq_false', Bool.not_eq_true, Bool.not_eq_false, List.length_map] at hl) <;> conv => whnf)
  · exact ⟨close_bool rfl, trivial⟩
  (split <;> rename_i hm <;> (try simp only [decide_eq_true_eq, decide_eq_false_iff_not, Bool.not_eq_true', Bool.not_eq_false', Bool.not_eq_true, Bool.not_eq_false, List.length_map] at hm) <;> conv => whnf)
  · exact ⟨close_bool rfl, trivial⟩
  obtain ⟨d, hd⟩ : ∃ d, (drawDO l).1 = d := ⟨_, rfl⟩
  obtain ⟨o, ho⟩ : ∃ o, (drawDO l).2 = o := ⟨_, rfl⟩
  obtain ⟨hsd, hso⟩ := drawDO_ok l
  rw [hd] at hsd
  rw [ho] at hso
  have hus := small_used hsd
  obtain ⟨r, hr⟩ : ∃ r, driveDoF d o = r := ⟨_, rfl⟩
  have hrk := driveDoF_ok d hsd.1 o hso.1
  rw [hr] at hrk
  have hrok := hrk.1.1
  refine ⟨_, _, drawDO_c l (by omega) d o hd ho, lends_cons (lend_one (la_par 0 rfl)) lends_nil, ?_⟩; (conv => whnf)
  refine ⟨_, _, driveDoImpl_c d hsd.1 hus o hso.1 r hr, (by repeat' (first | exact lends_nil | exact lend_dead | apply lends_cons | apply lend_agg | apply lend_one | exact all2_nil | apply all2_cons | exact la_lit rfl | exact la_int (by first | rfl | omega) | exact la_row rfl rfl | exact la_loc rfl rfl rfl (by first | rfl | simp [mkL_length]) (by first | rfl | simp) | exact la_nil rfl | apply la_fn rfl | exact lend_same rfl rfl | exact lend_bor rfl rfl)), ?_⟩; (conv => whnf)
  refine ⟨_, _, driveDoSpec_c d hsd.1 hus o hso.1 r hr, (by repeat' (first | exact lends_nil | exact lend_dead | apply lends_cons | apply lend_agg | apply lend_one | exact all2_nil | apply all2_cons | exact la_lit rfl | exact la_int (by first | rfl | omega) | exact la_row rfl rfl | exact la_loc rfl rfl rfl (by first | rfl | simp [mkL_length]) (by first | rfl | simp) | exact la_nil rfl | apply la_fn rfl | exact lend_same rfl rfl | exact lend_bor rfl rfl)), ?_⟩; (conv => whnf)
  (split <;> rename_i h3 <;> (try simp only [decide_eq_true_eq, decide_eq_false_iff_not, Bool.not_eq_true', Bool.not_eq_false', Bool.not_eq_true, Bool.not_eq_false, List.length_map] at h3) <;> conv => whnf)
  · exact absurd trivial h3
  refine ⟨_, _, driveSpec_c d hsd.1 hus, (by repeat' (first | exact lends_nil | exact lend_dead | apply lends_cons | apply lend_agg | apply lend_one | exact all2_nil | apply all2_cons | exact la_lit rfl | exact la_int (by first | rfl | omega) | exact la_row rfl rfl | exact la_loc rfl rfl rfl (by first | rfl | simp [mkL_length]) (by first | rfl | simp) | exact la_nil rfl | apply la_fn rfl | exact lend_same rfl rfl | exact lend_bor rfl rfl)), ?_⟩; (conv => whnf)
  (split <;> rename_i h4 <;> (try simp only [decide_eq_true_eq, decide_eq_false_iff_not, Bool.not_eq_true', Bool.not_eq_false', Bool.not_eq_true, Bool.not_eq_false, List.length_map] at h4) <;> conv => whnf)
  · exact ⟨close_bool (by simp), trivial⟩
  have hdr : driveOk d = true := by simpa using h4
  obtain ⟨q1, q2, q3, q4, q5, q6⟩ := (driveOk_iff d).1 hdr
  obtain ⟨ks, hks⟩ : ∃ ks, keepF m = ks := ⟨_, rfl⟩
  have hkk := keepF_ok m
  rw [hks] at hkk
  refine ⟨_, _, drawKeep_c m (by omega) _ ks rfl hks, lends_cons (lend_one (la_par 1 rfl)) lends_nil, ?_⟩; (conv => whnf)
  refine ⟨_, _, driveCrash_c d hsd.1 hdr ks hkk.2 (by omega), (by repeat' (first | exact lends_nil | exact lend_dead | apply lends_cons | apply lend_agg | apply lend_one | exact all2_nil | apply all2_cons | exact la_lit rfl | exact la_int (by first | rfl | omega) | exact la_row rfl rfl | exact la_loc rfl rfl rfl (by first | rfl | simp [mkL_length]) (by first | rfl | simp) | exact la_nil rfl | apply la_fn rfl | exact lend_same rfl rfl | exact lend_bor rfl rfl)), ?_⟩; (conv => whnf)
  have hcr := crash_right hdr ks
  have hcl : (crash ks d).files.length = d.files.length := by simp [crash]
  have hcok : (crash ks d).ok := by
    obtain ⟨s1, s2, s3, s4, s5, s6⟩ := (driveOk_iff _).1 hcr
    refine ⟨⟨by omega, fun f hf => ?_⟩, hsd.1.2⟩
    have := s4 f hf
    have hn := this.1
    unfold nameOk at hn
    simp only [Bool.and_eq_true, decide_eq_true_eq] at hn
    have h1 := this.2.1
    have h2 := this.2.2
    exact ⟨by omega, by omega, by unfold inI; omega⟩
  have hcu : usedN (crash ks d).files ≤ 1000000000000 := by
    have := ((driveOk_iff _).1 hcr).2.2
    have e : (crash ks d).room = d.room := rfl
    omega
  refine ⟨_, _, driveImpl_c (crash ks d) hcok hcu, (by repeat' (first | exact lends_nil | exact lend_dead | apply lends_cons | apply lend_agg | apply lend_one | exact all2_nil | apply all2_cons | exact la_lit rfl | exact la_int (by first | rfl | omega) | exact la_row rfl rfl | exact la_loc rfl rfl rfl (by first | rfl | simp [mkL_length]) (by first | rfl | simp) | exact la_nil rfl | apply la_fn rfl | exact lend_same rfl rfl | exact lend_bor rfl rfl)), ?_⟩; (conv => whnf)
  (split <;> rename_i h5 <;> (try simp only [decide_eq_true_eq, decide_eq_false_iff_not, Bool.not_eq_true', Bool.not_eq_false', Bool.not_eq_true, Bool.not_eq_false, List.length_map] at h5) <;> conv => whnf)
  · rw [hcr] at h5; cases h5
  (split <;> rename_i h6 <;> (try simp only [decide_eq_true_eq, decide_eq_false_iff_not, Bool.not_eq_true', Bool.not_eq_false', Bool.not_eq_true, Bool.not_eq_false, List.length_map] at h6) <;> conv => whnf)
  · exfalso; simp [crash] at h6
  (split <;> rename_i hc <;> (try simp only [decide_eq_true_eq, decide_eq_false_iff_not, Bool.not_eq_true', Bool.not_eq_false', Bool.not_eq_true, Bool.not_eq_false, List.length_map] at hc) <;> conv => whnf)
  · have hrr : driveOk r.drive = true := by rw [← hr] at hc ⊢; exact (driveDo_right hdr hc).2.2
    have hru : usedN r.drive.files ≤ 1000000000000 := by
      have := ((driveOk_iff _).1 hrr).2.2
      omega
    have hkeep : ∀ f ∈ d.files, f.name ≠ o.name → f.name ≠ o.to → f ∈ r.drive.files := fun f hf h1 h2 => by
      rw [← hr] at hc ⊢
      obtain ⟨_, e, _⟩ := driveDo_right hdr hc
      rw [e] at hc ⊢
      exact doF_keeps hdr hc hf h1 h2
    refine ⟨_, _, driveImpl_c r.drive hrok hru, (by repeat' (first | exact lends_nil | exact lend_dead | apply lends_cons | apply lend_agg | apply lend_one | exact all2_nil | apply all2_cons | exact la_lit rfl | exact la_int (by first | rfl | omega) | exact la_row rfl rfl | exact la_loc rfl rfl rfl (by first | rfl | simp [mkL_length]) (by first | rfl | simp) | exact la_nil rfl | apply la_fn rfl | exact lend_same rfl rfl | exact lend_bor rfl rfl)), ?_⟩; (conv => whnf)
    (split <;> rename_i h7 <;> (try simp only [decide_eq_true_eq, decide_eq_false_iff_not, Bool.not_eq_true', Bool.not_eq_false', Bool.not_eq_true, Bool.not_eq_false, List.length_map] at h7) <;> conv => whnf)
    · rw [hrr] at h7; cases h7
    refine ⟨LG (fun i : Nat => i ≤ d.files.length) (fun i => d.files.length - i)
        (fun i => AS.of [(4, .one (.lit (.bool false))), (5, .one (.ptr 80 0)), (6, .one (.ptr 96 0)), (7, .one (.ptr 112 0)), (11, .one (.ptr 176 0)), (12, .one (.lit (.int .i64 (i : Nat))))]
          [(80, .var [.loc 416 0 d.files.length, .lit (.int .i64 d.room)]), (416, .row true 3 (d.files.map DStored.enc)), (96, .var o.enc), (112, .var [.loc 496 0 r.drive.files.length, .lit (.int .i64 r.drive.room), .lit (.int .i64 r.code)]), (496, .row true 3 (r.drive.files.map DStored.enc)),
           (176, .var [.loc 912 0 d.files.length, .lit (.int .i64 d.room)]), (912, .row true 3 ((crash ks d).files.map DStored.enc))]),
      lg_init 0 (Nat.zero_le _) (weak_of (by repeat (first | refine all_cons (by first | rfl | exact eq_int rfl (by first | rfl | omega | (simp; done) | (simp; omega)) | exact eq_loc rfl (by first | rfl | omega | (simp; done) | (simp; omega)) | exact eq_bool rfl (by simp_all)) ?_ | exact all_nil)) (all_cons (eq_var (xs := [.loc 416 0 (d.files.map DStored.enc).length, .lit (.int .i64 d.room)]) rfl (by rw [List.length_map])) (all_cons rfl (all_cons rfl (all_cons (eq_var (xs := [.loc 496 0 (r.drive.files.map DStored.enc).length, .lit (.int .i64 r.drive.room), .lit (.int .i64 r.code)]) rfl (by rw [List.length_map])) (all_cons rfl (all_cons (eq_var (xs := [.loc 912 0 ((crash ks d).files.map DStored.enc).length, .lit (.int .i64 (crash ks d).room)]) rfl (by rw [List.length_map, hcl]; rfl)) (all_cons rfl all_nil))))))) rfl rfl), ?_⟩
    rintro σ k ⟨i, hi, rfl, rfl⟩
    refine ⟨_, Weak.refl _, ?_⟩
    (conv => whnf)
    (split <;> rename_i h <;> (try simp only [decide_eq_true_eq, decide_eq_false_iff_not, Bool.not_eq_true', Bool.not_eq_false', Bool.not_eq_true, Bool.not_eq_false, List.length_map] at h) <;> conv => whnf)
    · have hlt : i < d.files.length := by omega
      obtain ⟨f, hfe⟩ : ∃ f, d.files[i] = f := ⟨_, rfl⟩
      have hfm : f ∈ d.files := by rw [← hfe]; exact List.getElem_mem hlt
      have hci : (crash ks d).files[i]'(by rw [hcl]; exact hlt) = crashOne ks i f := by rw [← hfe]; simp [crash]
      have hlt' : i < (crash ks d).files.length := by rw [hcl]; exact hlt
      have hfo : fileOk f := q4 f hfm
      have hcn := crashN_in (keep := ks) (i := i) ⟨hfo.2.2.1, hfo.2.2.2⟩
      have hf0 := hfo.2.2.1
      have hsz : (f.text.extract 0 (crashN ks i f).toNat).size = (crashN ks i f).toNat := extract_size ⟨by omega, hcn.2⟩
      refine ⟨i, rfl, hlt, ?_⟩; (conv => whnf)
      refine ⟨_, at_map0 hlt, ?_⟩; rw [hfe]; (conv => whnf)
      refine ⟨i, rfl, hlt, ?_⟩; (conv => whnf)
      refine ⟨_, at_map0 hlt', ?_⟩; rw [hci]; (conv => whnf)
      (split <;> rename_i c1 <;> (try simp only [decide_eq_true_eq, decide_eq_false_iff_not, Bool.not_eq_true', Bool.not_eq_false', Bool.not_eq_true, Bool.not_eq_false, List.length_map] at c1) <;> conv => whnf)
      · exact absurd rfl c1
      (split <;> rename_i c2 <;> (try simp only [decide_eq_true_eq, decide_eq_false_iff_not, Bool.not_eq_true', Bool.not_eq_false', Bool.not_eq_true, Bool.not_eq_false, List.length_map] at c2) <;> conv => whnf)
      · exfalso; have c2' : ((f.text.extract 0 (crashN ks i f).toNat).size : Int) < f.synced := c2; rw [hsz] at c2'; omega
      (split <;> rename_i c3 <;> (try simp only [decide_eq_true_eq, decide_eq_false_iff_not, Bool.not_eq_true', Bool.not_eq_false', Bool.not_eq_true, Bool.not_eq_false, List.length_map] at c3) <;> conv => whnf)
      · exfalso; have c3' : (f.text.size : Int) < ((f.text.extract 0 (crashN ks i f).toNat).size : Int) := c3; rw [hsz] at c3'; omega
      refine ⟨by decide, by show (0 : Int) ≤ ((f.text.extract 0 (crashN ks i f).toNat).size : Int); omega, by show ((f.text.extract 0 (crashN ks i f).toNat).size : Int) ≤ (f.text.size : Int); rw [hsz]; omega, _, rfl, ?_⟩; (conv => whnf)
      (split <;> rename_i c4 <;> (try simp only [decide_eq_true_eq, decide_eq_false_iff_not, Bool.not_eq_true', Bool.not_eq_false', Bool.not_eq_true, Bool.not_eq_false, List.length_map] at c4) <;> conv => whnf)
      · exfalso; apply c4; show f.text.extract 0 (crashN ks i f).toNat = f.text.extract 0 ((f.text.extract 0 (crashN ks i f).toNat).size : Int).toNat; rw [hsz, Int.toNat_natCast]
      (split <;> rename_i c5 <;> (try simp only [decide_eq_true_eq, decide_eq_false_iff_not, Bool.not_eq_true', Bool.not_eq_false', Bool.not_eq_true, Bool.not_eq_false, List.length_map] at c5) <;> conv => whnf)
      · exfalso; apply c5; show crashN ks i f = ((f.text.extract 0 (crashN ks i f).toNat).size : Int); rw [hsz]; omega
      (split <;> rename_i c6 <;> (try simp only [decide_eq_true_eq, decide_eq_false_iff_not, Bool.not_eq_true', Bool.not_eq_false', Bool.not_eq_true, Bool.not_eq_false, List.length_map] at c6) <;> conv => whnf)
      · (split <;> rename_i c7 <;> (try simp only [decide_eq_true_eq, decide_eq_false_iff_not, Bool.not_eq_true', Bool.not_eq_false', Bool.not_eq_true, Bool.not_eq_false, List.length_map] at c7) <;> conv => whnf)
        · (split <;> rename_i c8 <;> (try simp only [decide_eq_true_eq, decide_eq_false_iff_not, Bool.not_eq_true', Bool.not_eq_false', Bool.not_eq_true, Bool.not_eq_false, List.length_map] at c8) <;> conv => whnf)
          · refine ⟨_, _, driveRead_c r.drive hrok hrr f (hkeep f hfm c7 c8), (by repeat' (first | exact lends_nil | exact lend_dead | apply lends_cons | apply lend_agg | apply lend_one | exact all2_nil | apply all2_cons | exact la_lit rfl | exact la_int (by first | rfl | omega) | exact la_row rfl rfl | exact la_loc rfl rfl rfl (by first | rfl | simp [mkL_length]) (by first | rfl | simp) | exact la_nil rfl | apply la_fn rfl | exact lend_same rfl rfl | exact lend_bor rfl rfl)), ?_⟩; (conv => whnf)
            refine ⟨[.string f.text, .int .i64 0], [.string f.text, .int .i64 0], false, rfl, rfl, guard_data, eq_data f.text 0, ?_⟩; (conv => whnf)
            (refine ⟨((i + 1 : Nat) : Int), by rw [← wrap64_id] <;> omega, ?_⟩; conv => whnf)
            exact lg_back (i + 1) (by omega) (by (try dsimp only); omega) (weak_of (all_cons rfl (all_cons rfl (all_cons rfl (all_cons rfl (all_cons rfl (all_cons rfl all_nil)))))) (all_cons rfl (all_cons rfl (all_cons rfl (all_cons rfl (all_cons rfl (all_cons rfl (all_cons rfl all_nil))))))) rfl rfl)
          · (refine ⟨((i + 1 : Nat) : Int), by rw [← wrap64_id] <;> omega, ?_⟩; conv => whnf)
            exact lg_back (i + 1) (by omega) (by (try dsimp only); omega) (weak_of (all_cons rfl (all_cons rfl (all_cons rfl (all_cons rfl (all_cons rfl (all_cons rfl all_nil)))))) (all_cons rfl (all_cons rfl (all_cons rfl (all_cons rfl (all_cons rfl (all_cons rfl (all_cons rfl all_nil))))))) rfl rfl)
        · (refine ⟨((i + 1 : Nat) : Int), by rw [← wrap64_id] <;> omega, ?_⟩; conv => whnf)
          exact lg_back (i + 1) (by omega) (by (try dsimp only); omega) (weak_of (all_cons rfl (all_cons rfl (all_cons rfl (all_cons rfl (all_cons rfl (all_cons rfl all_nil)))))) (all_cons rfl (all_cons rfl (all_cons rfl (all_cons rfl (all_cons rfl (all_cons rfl (all_cons rfl all_nil))))))) rfl rfl)
      · exact absurd hc c6
    · exact ⟨close_bool rfl, trivial⟩
  · skip
    refine ⟨LG (fun i : Nat => i ≤ d.files.length) (fun i => d.files.length - i)
        (fun i => AS.of [(4, .one (.lit (.bool false))), (5, .one (.ptr 80 0)), (6, .one (.ptr 96 0)), (7, .one (.ptr 112 0)), (11, .one (.ptr 176 0)), (12, .one (.lit (.int .i64 (i : Nat))))]
          [(80, .var [.loc 416 0 d.files.length, .lit (.int .i64 d.room)]), (416, .row true 3 (d.files.map DStored.enc)), (96, .var o.enc), (112, .var [.loc 496 0 r.drive.files.length, .lit (.int .i64 r.drive.room), .lit (.int .i64 r.code)]), (496, .row true 3 (r.drive.files.map DStored.enc)),
           (176, .var [.loc 912 0 d.files.length, .lit (.int .i64 d.room)]), (912, .row true 3 ((crash ks d).files.map DStored.enc))]),
      lg_init 0 (Nat.zero_le _) (weak_of (by repeat (first | refine all_cons (by first | rfl | exact eq_int rfl (by first | rfl | omega | (simp; done) | (simp; omega)) | exact eq_loc rfl (by first | rfl | omega | (simp; done) | (simp; omega)) | exact eq_bool rfl (by simp_all)) ?_ | exact all_nil)) (all_cons (eq_var (xs := [.loc 416 0 (d.files.map DStored.enc).length, .lit (.int .i64 d.room)]) rfl (by rw [List.length_map])) (all_cons rfl (all_cons rfl (all_cons (eq_var (xs := [.loc 496 0 (r.drive.files.map DStored.enc).length, .lit (.int .i64 r.drive.room), .lit (.int .i64 r.code)]) rfl (by rw [List.length_map])) (all_cons rfl (all_cons (eq_var (xs := [.loc 912 0 ((crash ks d).files.map DStored.enc).length, .lit (.int .i64 (crash ks d).room)]) rfl (by rw [List.length_map, hcl]; rfl)) (all_cons rfl all_nil))))))) rfl rfl), ?_⟩
    rintro σ k ⟨i, hi, rfl, rfl⟩
    refine ⟨_, Weak.refl _, ?_⟩
    (conv => whnf)
    (split <;> rename_i h <;> (try simp only [decide_eq_true_eq, decide_eq_false_iff_not, Bool.not_eq_true', Bool.not_eq_false', Bool.not_eq_true, Bool.not_eq_false, List.length_map] at h) <;> conv => whnf)
    · have hlt : i < d.files.length := by omega
      obtain ⟨f, hfe⟩ : ∃ f, d.files[i] = f := ⟨_, rfl⟩
      have hfm : f ∈ d.files := by rw [← hfe]; exact List.getElem_mem hlt
      have hci : (crash ks d).files[i]'(by rw [hcl]; exact hlt) = crashOne ks i f := by rw [← hfe]; simp [crash]
      have hlt' : i < (crash ks d).files.length := by rw [hcl]; exact hlt
      have hfo : fileOk f := q4 f hfm
      have hcn := crashN_in (keep := ks) (i := i) ⟨hfo.2.2.1, hfo.2.2.2⟩
      have hf0 := hfo.2.2.1
      have hsz : (f.text.extract 0 (crashN ks i f).toNat).size = (crashN ks i f).toNat := extract_size ⟨by omega, hcn.2⟩
      refine ⟨i, rfl, hlt, ?_⟩; (conv => whnf)
      refine ⟨_, at_map0 hlt, ?_⟩; rw [hfe]; (conv => whnf)
      refine ⟨i, rfl, hlt, ?_⟩; (conv => whnf)
      refine ⟨_, at_map0 hlt', ?_⟩; rw [hci]; (conv => whnf)
      (split <;> rename_i c1 <;> (try simp only [decide_eq_true_eq, decide_eq_false_iff_not, Bool.not_eq_true', Bool.not_eq_false', Bool.not_eq_true, Bool.not_eq_false, List.length_map] at c1) <;> conv => whnf)
      · exact absurd rfl c1
      (split <;> rename_i c2 <;> (try simp only [decide_eq_true_eq, decide_eq_false_iff_not, Bool.not_eq_true', Bool.not_eq_false', Bool.not_eq_true, Bool.not_eq_false, List.length_map] at c2) <;> conv => whnf)
      · exfalso; have c2' : ((f.text.extract 0 (crashN ks i f).toNat).size : Int) < f.synced := c2; rw [hsz] at c2'; omega
      (split <;> rename_i c3 <;> (try simp only [decide_eq_true_eq, decide_eq_false_iff_not, Bool.not_eq_true', Bool.not_eq_false', Bool.not_eq_true, Bool.not_eq_false, List.length_map] at c3) <;> conv => whnf)
      · exfalso; have c3' : (f.text.size : Int) < ((f.text.extract 0 (crashN ks i f).toNat).size : Int) := c3; rw [hsz] at c3'; omega
      refine ⟨by decide, by show (0 : Int) ≤ ((f.text.extract 0 (crashN ks i f).toNat).size : Int); omega, by show ((f.text.extract 0 (crashN ks i f).toNat).size : Int) ≤ (f.text.size : Int); rw [hsz]; omega, _, rfl, ?_⟩; (conv => whnf)
      (split <;> rename_i c4 <;> (try simp only [decide_eq_true_eq, decide_eq_false_iff_not, Bool.not_eq_true', Bool.not_eq_false', Bool.not_eq_true, Bool.not_eq_false, List.length_map] at c4) <;> conv => whnf)
      · exfalso; apply c4; show f.text.extract 0 (crashN ks i f).toNat = f.text.extract 0 ((f.text.extract 0 (crashN ks i f).toNat).size : Int).toNat; rw [hsz, Int.toNat_natCast]
      (split <;> rename_i c5 <;> (try simp only [decide_eq_true_eq, decide_eq_false_iff_not, Bool.not_eq_true', Bool.not_eq_false', Bool.not_eq_true, Bool.not_eq_false, List.length_map] at c5) <;> conv => whnf)
      · exfalso; apply c5; show crashN ks i f = ((f.text.extract 0 (crashN ks i f).toNat).size : Int); rw [hsz]; omega
      (split <;> rename_i c6 <;> (try simp only [decide_eq_true_eq, decide_eq_false_iff_not, Bool.not_eq_true', Bool.not_eq_false', Bool.not_eq_true, Bool.not_eq_false, List.length_map] at c6) <;> conv => whnf)
      · exact absurd c6 hc
      (refine ⟨((i + 1 : Nat) : Int), by rw [← wrap64_id] <;> omega, ?_⟩; conv => whnf)
      exact lg_back (i + 1) (by omega) (by (try dsimp only); omega) (weak_of (all_cons rfl (all_cons rfl (all_cons rfl (all_cons rfl (all_cons rfl (all_cons rfl all_nil)))))) (all_cons rfl (all_cons rfl (all_cons rfl (all_cons rfl (all_cons rfl (all_cons rfl (all_cons rfl all_nil))))))) rfl rfl)
    · exact ⟨close_bool rfl, trivial⟩
end Go.Proofs.Ytlijeincckbdaaa
