/- Contracts (reference): DriveDo. -/
import Derived.Test.YtlijeincckbdaaaS18
namespace Go.Proofs.Ytlijeincckbdaaa
open Go.RowKit
set_option linter.unusedSimpArgs false
set_option linter.unusedVariables false
set_option maxRecDepth 100000
set_option maxHeartbeats 4000000
theorem l08Do_c (x : DDrive) (hx : x.ok) (hd : driveOk x = true) (o : DOp) (ho : o.ok) (ho2 : opOk o = true) (res : DDriveOut) (hres : doF x o = res) :
    Fun1 Try.prog 118 [.agg x.enc, .agg o.enc] (.agg res.enc) := by
  have hx' := hx
  obtain ⟨⟨hl, hf⟩, hr⟩ := hx
  obtain ⟨q1, q2, q3, q4, q5, q6⟩ := (driveOk_iff x).1 hd
  refine fun1_of_vc tb_ok mix (fn := Try.f118) Try.func118 rfl (by kernel_rfl) (by kernel_rfl) (by simp [Try.f118]) (by exact DDriveOut.enc_nb _) ?_
  (conv => whnf)
  refine ⟨_, _, l08Find_c x o.name hl, (by repeat' (first | exact lends_nil | exact lend_dead | apply lends_cons | apply lend_agg | apply lend_one | exact all2_nil | apply all2_cons | exact la_lit rfl | exact la_int (by first | rfl | omega) | exact la_row rfl rfl | exact la_loc rfl rfl rfl (by first | rfl | simp [mkL_length]) (by first | rfl | simp) | exact la_nil rfl | apply la_fn rfl | exact lend_same rfl rfl | exact lend_bor rfl rfl)), ?_⟩; (conv => whnf)
  (split <;> rename_i h1 <;> (try simp only [decide_eq_true_eq, decide_eq_false_iff_not, Bool.not_eq_true', Bool.not_eq_false', Bool.not_eq_true, Bool.not_eq_false, List.length_map] at h1) <;> conv => whnf)
  · by_cases h2 : hasN x.files o.name = true
    · obtain ⟨hp, he, hn⟩ := findI_eq hd h2
      have : res = ⟨noDrive, 7⟩ := by rw [← hres]; simp [doF, h1, h2]
      subst this
      rw [he]
      (split <;> rename_i h3 <;> (try simp only [decide_eq_true_eq, decide_eq_false_iff_not, Bool.not_eq_true', Bool.not_eq_false', Bool.not_eq_true, Bool.not_eq_false, List.length_map] at h3) <;> conv => whnf)
      · exact ⟨close_nil rfl, close_int rfl, close_int rfl, trivial⟩
      · omega
    have hf1 : findI x.files o.name = -1 := by simp [findI, h2]
    have full (h : x.files.length = 60 ∨ x.room < (usedN x.files : Int) + o.text.size) : res = ⟨noDrive, 11⟩ := by rw [← hres]; simp only [doF, h1, h2, if_true, Bool.false_eq_true, if_false]; rw [if_pos h]
    (split <;> rename_i h3 <;> (try simp only [decide_eq_true_eq, decide_eq_false_iff_not, Bool.not_eq_true', Bool.not_eq_false', Bool.not_eq_true, Bool.not_eq_false, List.length_map] at h3) <;> conv => whnf)
    · omega
    (split <;> rename_i h4 <;> (try simp only [decide_eq_true_eq, decide_eq_false_iff_not, Bool.not_eq_true', Bool.not_eq_false', Bool.not_eq_true, Bool.not_eq_false, List.length_map] at h4) <;> conv => whnf)
    · have := full (.inl (by omega))
      subst this
      exact ⟨close_nil rfl, close_int rfl, close_int rfl, trivial⟩
    have hts : o.text.size ≤ 4294967296 := ho.2.2.2
    refine ⟨_, _, usedSpec_c x hx' (by omega), (by repeat' (first | exact lends_nil | exact lend_dead | apply lends_cons | apply lend_agg | apply lend_one | exact all2_nil | apply all2_cons | exact la_lit rfl | exact la_int (by first | rfl | omega) | exact la_row rfl rfl | exact la_loc rfl rfl rfl (by first | rfl | simp [mkL_length]) (by first | rfl | simp) | exact la_nil rfl | apply la_fn rfl | exact lend_same rfl rfl | exact lend_bor rfl rfl)), ?_⟩; (conv => whnf)
    refine ⟨((usedN x.files + o.text.size : Nat) : Int), by rw [← wrap64_id] <;> omega, ?_⟩; (conv => whnf)
    (split <;> rename_i h5 <;> (try simp only [decide_eq_true_eq, decide_eq_false_iff_not, Bool.not_eq_true', Bool.not_eq_false', Bool.not_eq_true, Bool.not_eq_false, List.length_map] at h5) <;> conv => whnf)
    · have := full (.inr (by omega))
      subst this
      exact ⟨close_nil rfl, close_int rfl, close_int rfl, trivial⟩
    have : res = ⟨⟨insL x.files ⟨o.name, o.text, 0⟩, x.room⟩, 0⟩ := by
      rw [← hres]; simp only [doF, h1, h2, if_true, Bool.false_eq_true, if_false]; rw [if_neg (by omega)]
    subst this
    refine ⟨_, _, l08In_c x.files (by omega) ⟨o.name, o.text, 0⟩, (by repeat' (first | exact lends_nil | exact lend_dead | apply lends_cons | apply lend_agg | apply lend_one | exact all2_nil | apply all2_cons | exact la_lit rfl | exact la_int (by first | rfl | omega) | exact la_row rfl rfl | exact la_loc rfl rfl rfl (by first | rfl | simp [mkL_length]) (by first | rfl | simp) | exact la_nil rfl | apply la_fn rfl | exact lend_same rfl rfl | exact lend_bor rfl rfl)), ?_⟩; (conv => whnf)
    exact (by repeat' (first | exact trivial | exact close_int rfl | exact close_str rfl | exact close_bool rfl | exact close_int (by omega) | exact close_row rfl rfl (by first | rfl | simp) (by first | rfl | simp) | exact close_nil (by first | rfl | simp) | exact rfl | apply And.intro | apply closeTs_cons rfl))
  by_cases h2 : hasN x.files o.name = true
  case neg =>
    have hf1 : findI x.files o.name = -1 := by simp [findI, h2]
    have : res = ⟨noDrive, 8⟩ := by rw [← hres]; simp [doF, h1, h2]
    subst this
    (split <;> rename_i h3 <;> (try simp only [decide_eq_true_eq, decide_eq_false_iff_not, Bool.not_eq_true', Bool.not_eq_false', Bool.not_eq_true, Bool.not_eq_false, List.length_map] at h3) <;> conv => whnf)
    · exact ⟨close_nil rfl, close_int rfl, close_int rfl, trivial⟩
    · omega
  obtain ⟨hp, he, hn⟩ := findI_eq hd h2
  rw [he]
  (split <;> rename_i h3 <;> (try simp only [decide_eq_true_eq, decide_eq_false_iff_not, Bool.not_eq_true', Bool.not_eq_false', Bool.not_eq_true, Bool.not_eq_false, List.length_map] at h3) <;> conv => whnf)
  · omega
  have hg : x.files[findP x.files o.name]? = some x.files[findP x.files o.name] := List.getElem?_eq_getElem hp
  have hfi := hf _ (List.getElem_mem hp)
  unfold DStored.ok inI at hfi
  have hres' : res = if o.kind = 2 then ⟨⟨x.files.set (findP x.files o.name) ⟨x.files[findP x.files o.name].name, x.files[findP x.files o.name].text, (x.files[findP x.files o.name].text.size : Nat)⟩, x.room⟩, 0⟩
      else if o.kind = 3 then
        if o.to = o.name then ⟨x, 0⟩
        else ⟨⟨insL (cutL x.files (findP x.files o.name)) ⟨o.to, x.files[findP x.files o.name].text, x.files[findP x.files o.name].synced⟩, x.room⟩, 0⟩
      else ⟨⟨cutL x.files (findP x.files o.name), x.room⟩, 0⟩ := by
    rw [← hres]; unfold doF
    rw [if_neg h1, if_pos h2, hg]
  clear hres hg
  generalize hq : findP x.files o.name = p at *
  refine ⟨p, rfl, _, at_map hp, ?_⟩; (conv => whnf)
  refine ⟨_, _, l08Copy_c x hx', (by repeat' (first | exact lends_nil | exact lend_dead | apply lends_cons | apply lend_agg | apply lend_one | exact all2_nil | apply all2_cons | exact la_lit rfl | exact la_int (by first | rfl | omega) | exact la_row rfl rfl | exact la_loc rfl rfl rfl (by first | rfl | simp [mkL_length]) (by first | rfl | simp) | exact la_nil rfl | apply la_fn rfl | exact lend_same rfl rfl | exact lend_bor rfl rfl)), ?_⟩; (conv => whnf)
  (split <;> rename_i h4 <;> (try simp only [decide_eq_true_eq, decide_eq_false_iff_not, Bool.not_eq_true', Bool.not_eq_false', Bool.not_eq_true, Bool.not_eq_false, List.length_map] at h4) <;> conv => whnf)
  · rw [if_pos h4] at hres'
    subst hres'
    refine ⟨p, rfl, by simpa using hp, ?_⟩; (conv => whnf)
    refine ⟨_, at_map0 hp, ?_⟩; (conv => whnf)
    refine ⟨(x.files.set p ⟨x.files[p].name, x.files[p].text, (x.files[p].text.size : Nat)⟩).map DStored.enc, set_enc0 rfl, ?_⟩; (conv => whnf)
    exact ⟨close_row rfl rfl (by simp) rfl, close_int rfl, close_int rfl, trivial⟩
  rw [if_neg h4] at hres'
  (split <;> rename_i h5 <;> (try simp only [decide_eq_true_eq, decide_eq_false_iff_not, Bool.not_eq_true', Bool.not_eq_false', Bool.not_eq_true, Bool.not_eq_false, List.length_map] at h5) <;> conv => whnf)
  · rw [if_pos h5] at hres'
    (split <;> rename_i h6 <;> (try simp only [decide_eq_true_eq, decide_eq_false_iff_not, Bool.not_eq_true', Bool.not_eq_false', Bool.not_eq_true, Bool.not_eq_false, List.length_map] at h6) <;> conv => whnf)
    · rw [if_neg h6] at hres'
      subst hres'
      refine ⟨_, _, l08Out_c x.files hl p hp, (by repeat' (first | exact lends_nil | exact lend_dead | apply lends_cons | apply lend_agg | apply lend_one | exact all2_nil | apply all2_cons | exact la_lit rfl | exact la_int (by first | rfl | omega) | exact la_row rfl rfl | exact la_loc rfl rfl rfl (by first | rfl | simp [mkL_length]) (by first | rfl | simp) | exact la_nil rfl | apply la_fn rfl | exact lend_same rfl rfl | exact lend_bor rfl rfl)), ?_⟩; (conv => whnf)
      refine ⟨_, _, l08In_c (cutL x.files p) (Nat.le_trans (cutL_sub _ _).length_le (by omega)) ⟨o.to, x.files[p].text, x.files[p].synced⟩, (by repeat' (first | exact lends_nil | exact lend_dead | apply lends_cons | apply lend_agg | apply lend_one | exact all2_nil | apply all2_cons | exact la_lit rfl | exact la_int (by first | rfl | omega) | exact la_row rfl rfl | exact la_loc rfl rfl rfl (by first | rfl | simp [mkL_length]) (by first | rfl | simp) | exact la_nil rfl | apply la_fn rfl | exact lend_same rfl rfl | exact lend_bor rfl rfl)), ?_⟩; (conv => whnf)
      exact (by repeat' (first | exact trivial | exact close_int rfl | exact close_str rfl | exact close_bool rfl | exact close_int (by omega) | exact close_row rfl rfl (by first | rfl | simp) (by first | rfl | simp) | exact close_nil (by first | rfl | simp) | exact rfl | apply And.intro | apply closeTs_cons rfl))
    · rw [if_pos (by simpa using h6)] at hres'
      subst hres'
      exact ⟨close_row rfl rfl (by simp) rfl, close_int rfl, close_int rfl, trivial⟩
  rw [if_neg h5] at hres'
  subst hres'
  refine ⟨_, _, l08Out_c x.files hl p hp, (by repeat' (first | exact lends_nil | exact lend_dead | apply lends_cons | apply lend_agg | apply lend_one | exact all2_nil | apply all2_cons | exact la_lit rfl | exact la_int (by first | rfl | omega) | exact la_row rfl rfl | exact la_loc rfl rfl rfl (by first | rfl | simp [mkL_length]) (by first | rfl | simp) | exact la_nil rfl | apply la_fn rfl | exact lend_same rfl rfl | exact lend_bor rfl rfl)), ?_⟩; (conv => whnf)
  exact (by repeat' (first | exact trivial | exact close_int rfl | exact close_str rfl | exact close_bool rfl | exact close_int (by omega) | exact close_row rfl rfl (by first | rfl | simp) (by first | rfl | simp) | exact close_nil (by first | rfl | simp) | exact rfl | apply And.intro | apply closeTs_cons rfl))
theorem driveDoSpec_c (x : DDrive) (hx : x.ok) (hu : usedN x.files ≤ 1000000000000) (o : DOp) (ho : o.ok) (res : DDriveOut) (hres : driveDoF x o = res) :
    Fun1 Try.prog 35 [.agg x.enc, .agg o.enc] (.agg res.enc) := by
  refine fun1_of_vc tb_ok mix (fn := Try.f35) Try.func35 rfl (by kernel_rfl) (by kernel_rfl) (by simp [Try.f35]) (by exact DDriveOut.enc_nb _) ?_
  (conv => whnf)
  refine ⟨_, _, driveSpec_c x hx hu, (by repeat' (first | exact lends_nil | exact lend_dead | apply lends_cons | apply lend_agg | apply lend_one | exact all2_nil | apply all2_cons | exact la_lit rfl | exact la_int (by first | rfl | omega) | exact la_row rfl rfl | exact la_loc rfl rfl rfl (by first | rfl | simp [mkL_length]) (by first | rfl | simp) | exact la_nil rfl | apply la_fn rfl | exact lend_same rfl rfl | exact lend_bor rfl rfl)), ?_⟩; (conv => whnf)
  (split <;> rename_i h1 <;> (try simp only [decide_eq_true_eq, decide_eq_false_iff_not, Bool.not_eq_true', Bool.not_eq_false', Bool.not_eq_true, Bool.not_eq_false, List.length_map] at h1) <;> conv => whnf)
  · have : res = ⟨noDrive, 1⟩ := by rw [← hres]; simp [driveDoF, h1]
    subst this
    exact ⟨close_nil rfl, close_int rfl, close_int rfl, trivial⟩
  refine ⟨_, _, opSpec_c o ho, (by repeat' (first | exact lends_nil | exact lend_dead | apply lends_cons | apply lend_agg | apply lend_one | exact all2_nil | apply all2_cons | exact la_lit rfl | exact la_int (by first | rfl | omega) | exact la_row rfl rfl | exact la_loc rfl rfl rfl (by first | rfl | simp [mkL_length]) (by first | rfl | simp) | exact la_nil rfl | apply la_fn rfl | exact lend_same rfl rfl | exact lend_bor rfl rfl)), ?_⟩; (conv => whnf)
  (split <;> rename_i h2 <;> (try simp only [decide_eq_true_eq, decide_eq_false_iff_not, Bool.not_eq_true', Bool.not_eq_false', Bool.not_eq_true, Bool.not_eq_false, List.length_map] at h2) <;> conv => whnf)
  · have : res = ⟨noDrive, 1⟩ := by rw [← hres]; simp [driveDoF, h1, h2]
    subst this
    exact ⟨close_nil rfl, close_int rfl, close_int rfl, trivial⟩
  have hd : doF x o = res := by rw [← hres]; simp [driveDoF, h1, h2]
  refine ⟨_, _, l08Do_c x hx h1 o ho h2 res hd, (by repeat' (first | exact lends_nil | exact lend_dead | apply lends_cons | apply lend_agg | apply lend_one | exact all2_nil | apply all2_cons | exact la_lit rfl | exact la_int (by first | rfl | omega) | exact la_row rfl rfl | exact la_loc rfl rfl rfl (by first | rfl | simp [mkL_length]) (by first | rfl | simp) | exact la_nil rfl | apply la_fn rfl | exact lend_same rfl rfl | exact lend_bor rfl rfl)), ?_⟩; (conv => whnf)
  exact (by repeat' (first | exact trivial | exact close_int rfl | exact close_str rfl | exact close_bool rfl | exact close_int (by omega) | exact close_row rfl rfl (by first | rfl | simp) (by first | rfl | simp) | exact close_nil (by first | rfl | simp) | exact rfl | apply And.intro | apply closeTs_cons rfl))
end Go.Proofs.Ytlijeincckbdaaa
