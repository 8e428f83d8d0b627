/- Contracts (implementation): an op is done to a drive. -/
import Derived.Test.YtlijeincckbdaaaP3
namespace Go.Proofs.Ytlijeincckbdaaa
open Go.RowKit
set_option linter.unusedSimpArgs false
set_option linter.unusedVariables false
set_option maxRecDepth 100000
set_option maxHeartbeats 4000000
theorem done_c (x : DDrive) (hx : x.ok) (hd : driveOk x = true) (o : DOp) (ho : o.ok) (ho2 : opOk o = true) (res : DDriveOut) (hres : doF x o = res) :
    Fun1 Try.prog 116 [.agg x.enc, .agg o.enc] (.tup [(true, res.drive.enc), (false, [.lit (.int .i64 res.code)])]) := by
  have hx' := hx
  obtain ⟨⟨hl, hf⟩, hr⟩ := hx
  obtain ⟨q1, q2, q3, q4, q5, q6⟩ := (driveOk_iff x).1 hd
  refine fun1_of_vc tb_ok mix (fn := Try.f116) Try.func116 rfl (by kernel_rfl) (by kernel_rfl) (by simp [Try.f116]) (by show (res.drive.enc.all (AV.nb 5) && (([AV.lit (.int .i64 res.code)].all (AV.nb 5)) && true)) = true; rw [DDrive.enc_nb]; rfl) ?_
  (conv => whnf)
  refine ⟨_, _, find_c x hd o.name hl, (by repeat' (first | exact lends_nil | exact lend_dead | apply lends_cons | apply lend_agg | apply lend_one | exact all2_nil | apply all2_cons | exact la_lit rfl | exact la_int (by first | rfl | omega) | exact la_row rfl rfl | exact la_loc rfl rfl rfl (by first | rfl | simp [mkL_length]) (by first | rfl | simp) | exact la_nil rfl | apply la_fn rfl | exact lend_same rfl rfl | exact lend_bor rfl rfl)), ?_⟩; (conv => whnf)
  refine ⟨_, _, copied_c x hx', (by repeat' (first | exact lends_nil | exact lend_dead | apply lends_cons | apply lend_agg | apply lend_one | exact all2_nil | apply all2_cons | exact la_lit rfl | exact la_int (by first | rfl | omega) | exact la_row rfl rfl | exact la_loc rfl rfl rfl (by first | rfl | simp [mkL_length]) (by first | rfl | simp) | exact la_nil rfl | apply la_fn rfl | exact lend_same rfl rfl | exact lend_bor rfl rfl)), ?_⟩; (conv => whnf)
  (split <;> rename_i h1 <;> (try simp only [decide_eq_true_eq, decide_eq_false_iff_not, Bool.not_eq_true', Bool.not_eq_false', Bool.not_eq_true, Bool.not_eq_false, List.length_map] at h1) <;> conv => whnf)
  · (split <;> rename_i h2 <;> (try simp only [decide_eq_true_eq, decide_eq_false_iff_not, Bool.not_eq_true', Bool.not_eq_false', Bool.not_eq_true, Bool.not_eq_false, List.length_map] at h2) <;> conv => whnf)
    · have : res = ⟨noDrive, 7⟩ := by rw [← hres]; simp [doF, h1, h2]
      subst this
      exact ⟨rfl, ⟨close_nil rfl, close_int rfl, trivial⟩, rfl, ⟨close_int rfl, trivial⟩, trivial⟩
    have full (h : x.files.length = 60 ∨ x.room < (usedN x.files : Int) + o.text.size) : res = ⟨noDrive, 11⟩ := by rw [← hres]; simp only [doF, h1, h2, if_true, Bool.false_eq_true, if_false]; rw [if_pos h]
    (split <;> rename_i h3 <;> (try simp only [decide_eq_true_eq, decide_eq_false_iff_not, Bool.not_eq_true', Bool.not_eq_false', Bool.not_eq_true, Bool.not_eq_false, List.length_map] at h3) <;> conv => whnf)
    · have := full (.inl (by omega))
      subst this
      exact ⟨rfl, ⟨close_nil rfl, close_int rfl, trivial⟩, rfl, ⟨close_int rfl, trivial⟩, trivial⟩
    have hts : o.text.size ≤ 4294967296 := ho.2.2.2
    refine ⟨_, _, usedImpl_c x hx' (by omega), (by repeat' (first | exact lends_nil | exact lend_dead | apply lends_cons | apply lend_agg | apply lend_one | exact all2_nil | apply all2_cons | exact la_lit rfl | exact la_int (by first | rfl | omega) | exact la_row rfl rfl | exact la_loc rfl rfl rfl (by first | rfl | simp [mkL_length]) (by first | rfl | simp) | exact la_nil rfl | apply la_fn rfl | exact lend_same rfl rfl | exact lend_bor rfl rfl)), ?_⟩; (conv => whnf)
    refine ⟨_, _, long_c o.text, (by repeat' (first | exact lends_nil | exact lend_dead | apply lends_cons | apply lend_agg | apply lend_one | exact all2_nil | apply all2_cons | exact la_lit rfl | exact la_int (by first | rfl | omega) | exact la_row rfl rfl | exact la_loc rfl rfl rfl (by first | rfl | simp [mkL_length]) (by first | rfl | simp) | exact la_nil rfl | apply la_fn rfl | exact lend_same rfl rfl | exact lend_bor rfl rfl)), ?_⟩; (conv => whnf)
    refine ⟨((usedN x.files + o.text.size : Nat) : Int), by rw [← wrap64_id] <;> omega, ?_⟩; (conv => whnf)
    (split <;> rename_i h4 <;> (try simp only [decide_eq_true_eq, decide_eq_false_iff_not, Bool.not_eq_true', Bool.not_eq_false', Bool.not_eq_true, Bool.not_eq_false, List.length_map] at h4) <;> conv => whnf)
    · have := full (.inr (by omega))
      subst this
      exact ⟨rfl, ⟨close_nil rfl, close_int rfl, trivial⟩, rfl, ⟨close_int rfl, trivial⟩, trivial⟩
    have : res = ⟨⟨insL x.files ⟨o.name, o.text, 0⟩, x.room⟩, 0⟩ := by
      rw [← hres]; simp only [doF, h1, h2, if_true, Bool.false_eq_true, if_false]; rw [if_neg (by omega)]
    subst this
    have hp : findP x.files o.name ≤ x.files.length := by rw [← inK_findP hd]; exact inK_le _ _
    refine ⟨_, _, ins_ok (sz := 3) (by_ := 40) (i := findP x.files o.name) (es := x.files.map DStored.enc) (vs := [DStored.enc ⟨o.name, o.text, 0⟩]) insStored_h rfl rfl rfl (by simpa using hp) rfl rfl (by simp) (by decide) rfl (by simp [maxLen]; omega) (by simp; omega), ?_⟩; (conv => whnf)
    have he : insL x.files ⟨o.name, o.text, 0⟩ = x.files.take (findP x.files o.name) ++ [⟨o.name, o.text, 0⟩] ++ x.files.drop (findP x.files o.name) := by
      unfold insL
      simp only
      rw [inK_findP hd, isAt_hasN hd, h2]; rfl
    exact ⟨rfl, ⟨close_row rfl rfl (by simp; omega) (by simp only; rw [he]; simp [List.map_take, List.map_drop]; rfl), close_int rfl, trivial⟩, rfl, ⟨close_int rfl, trivial⟩, trivial⟩
  (split <;> rename_i h2 <;> (try simp only [decide_eq_true_eq, decide_eq_false_iff_not, Bool.not_eq_true', Bool.not_eq_false', Bool.not_eq_true, Bool.not_eq_false, List.length_map] at h2) <;> conv => whnf)
  · have : res = ⟨noDrive, 8⟩ := by rw [← hres]; simp [doF, h1, h2]
    subst this
    exact ⟨rfl, ⟨close_nil rfl, close_int rfl, trivial⟩, rfl, ⟨close_int rfl, trivial⟩, trivial⟩
  obtain ⟨hp, _, hn⟩ := findI_eq hd h2
  have hg : x.files[findP x.files o.name]? = some x.files[findP x.files o.name] := List.getElem?_eq_getElem hp
  have hfi := hf _ (List.getElem_mem hp)
  unfold DStored.ok inI at hfi
  have hres' : res = if o.kind = 2 then ⟨⟨x.files.set (findP x.files o.name) ⟨x.files[findP x.files o.name].name, x.files[findP x.files o.name].text, (x.files[findP x.files o.name].text.size : Nat)⟩, x.room⟩, 0⟩
      else if o.kind = 3 then
        if o.to = o.name then ⟨x, 0⟩
        else ⟨⟨insL (cutL x.files (findP x.files o.name)) ⟨o.to, x.files[findP x.files o.name].text, x.files[findP x.files o.name].synced⟩, x.room⟩, 0⟩
      else ⟨⟨cutL x.files (findP x.files o.name), x.room⟩, 0⟩ := by
    rw [← hres]; unfold doF
    rw [if_neg h1, if_pos h2, hg]
  clear hres hg
  generalize hq : findP x.files o.name = p at *
  (split <;> rename_i h3 <;> (try simp only [decide_eq_true_eq, decide_eq_false_iff_not, Bool.not_eq_true', Bool.not_eq_false', Bool.not_eq_true, Bool.not_eq_false, List.length_map] at h3) <;> conv => whnf)
  · rw [if_pos h3] at hres'
    subst hres'
    refine ⟨p, rfl, by simpa using hp, ?_⟩; (conv => whnf)
    refine ⟨_, at_map0 hp, ?_⟩; (conv => whnf)
    refine ⟨_, _, long_c x.files[p].text, (by repeat' (first | exact lends_nil | exact lend_dead | apply lends_cons | apply lend_agg | apply lend_one | exact all2_nil | apply all2_cons | exact la_lit rfl | exact la_int (by first | rfl | omega) | exact la_row rfl rfl | exact la_loc rfl rfl rfl (by first | rfl | simp [mkL_length]) (by first | rfl | simp) | exact la_nil rfl | apply la_fn rfl | exact lend_same rfl rfl | exact lend_bor rfl rfl)), ?_⟩; (conv => whnf)
    refine ⟨p, rfl, by simpa using hp, ?_⟩; (conv => whnf)
    refine ⟨_, at_map0 hp, ?_⟩; (conv => whnf)
    refine ⟨(x.files.set p ⟨x.files[p].name, x.files[p].text, (x.files[p].text.size : Nat)⟩).map DStored.enc, set_enc0 rfl, ?_⟩; (conv => whnf)
    exact ⟨rfl, ⟨close_row rfl rfl (by simp) rfl, close_int rfl, trivial⟩, rfl, ⟨close_int rfl, trivial⟩, trivial⟩
  rw [if_neg h3] at hres'
  (split <;> rename_i h4 <;> (try simp only [decide_eq_true_eq, decide_eq_false_iff_not, Bool.not_eq_true', Bool.not_eq_false', Bool.not_eq_true, Bool.not_eq_false, List.length_map] at h4) <;> conv => whnf)
  · rw [if_pos h4] at hres'
    (split <;> rename_i h5 <;> (try simp only [decide_eq_true_eq, decide_eq_false_iff_not, Bool.not_eq_true', Bool.not_eq_false', Bool.not_eq_true, Bool.not_eq_false, List.length_map] at h5) <;> conv => whnf)
    · rw [if_pos h5] at hres'
      subst hres'
      exact ⟨rfl, ⟨close_row rfl rfl (by simp) rfl, close_int rfl, trivial⟩, rfl, ⟨close_int rfl, trivial⟩, trivial⟩
    rw [if_neg h5] at hres'
    refine ⟨p, rfl, by simpa using hp, ?_⟩; (conv => whnf)
    refine ⟨_, at_map0 hp, ?_⟩; (conv => whnf)
    refine ⟨((p : Nat) : Int) + 1, by rw [← wrap64_id] <;> omega, ?_⟩; (conv => whnf)
    refine ⟨_, _, del_ok (sz := 3) (i := p) (es := x.files.map DStored.enc) delStored_h rfl rfl rfl (by simpa using hp) rfl, ?_⟩; (conv => whnf)
    (split <;> rename_i h6 <;> (try simp only [decide_eq_true_eq, decide_eq_false_iff_not, Bool.not_eq_true', Bool.not_eq_false', Bool.not_eq_true, Bool.not_eq_false, List.length_map] at h6) <;> conv => whnf)
    rotate_left
    · exact absurd h4 h6
    have hd1 : driveOk ⟨cutL x.files p, x.room⟩ = true := driveOk_sub hd (cutL_sub _ _)
    have hcl : (cutL x.files p).length = x.files.length - 1 := by simp [cutL]; omega
    have hcm : (cutL x.files p).map DStored.enc = (x.files.map DStored.enc).take p ++ (x.files.map DStored.enc).drop (p + 1) := by simp [cutL, List.map_take, List.map_drop]
    refine ⟨_, _, find_c ⟨cutL x.files p, x.room⟩ hd1 o.to (by show (cutL x.files p).length ≤ _; omega), lends_cons (lend_agg (all2_cons (la_loc rfl rfl rfl (by simp; omega) hcm) (all2_cons (la_int rfl) all2_nil))) (lends_cons (lend_one (la_str rfl)) lends_nil), ?_⟩; (conv => whnf)
    subst hres'
    have hik := inK_findP hd1 o.to
    have hia := isAt_hasN hd1 o.to
    have hp1 : findP (cutL x.files p) o.to ≤ (cutL x.files p).length := by rw [← hik]; exact inK_le _ _
    simp only at hik hia
    (split <;> rename_i h7 <;> (try simp only [decide_eq_true_eq, decide_eq_false_iff_not, Bool.not_eq_true', Bool.not_eq_false', Bool.not_eq_true, Bool.not_eq_false, List.length_map] at h7) <;> conv => whnf)
    · obtain ⟨hp2, _, hn2⟩ := findI_eq hd1 h7
      refine ⟨_, rfl, by simp; simp only at hp2; omega, ?_⟩; (conv => whnf)
      refine ⟨_, by rw [← hcm]; exact at_map0 hp2, ?_⟩; (conv => whnf)
      refine ⟨((cutL x.files p).set (findP (cutL x.files p) o.to) ⟨o.to, x.files[p].text, x.files[p].synced⟩).map DStored.enc, by rw [← hcm]; exact set_enc0 rfl, ?_⟩; (conv => whnf)
      have he : insL (cutL x.files p) ⟨o.to, x.files[p].text, x.files[p].synced⟩ = (cutL x.files p).set (findP (cutL x.files p) o.to) ⟨o.to, x.files[p].text, x.files[p].synced⟩ := by
        unfold insL
        simp only
        rw [hik, hia, h7, if_pos rfl, List.set_eq_take_append_cons_drop, if_pos hp2]
        simp
      exact ⟨rfl, ⟨close_row rfl rfl (by simp; omega) (by simp only; rw [he]), close_int rfl, trivial⟩, rfl, ⟨close_int rfl, trivial⟩, trivial⟩
    · have he : insL (cutL x.files p) ⟨o.to, x.files[p].text, x.files[p].synced⟩ = (cutL x.files p).take (findP (cutL x.files p) o.to) ++ [⟨o.to, x.files[p].text, x.files[p].synced⟩] ++ (cutL x.files p).drop (findP (cutL x.files p) o.to) := by
        unfold insL
        simp only
        rw [hik, hia, h7]; rfl
      refine ⟨_, _, ins_ok (sz := 3) (by_ := 40) (i := findP (cutL x.files p) o.to) (es := (x.files.map DStored.enc).take p ++ (x.files.map DStored.enc).drop (p + 1)) (vs := [DStored.enc ⟨o.to, x.files[p].text, x.files[p].synced⟩]) insStored_h (s := 320) (show T.one (.loc 320 0 ((x.files.map DStored.enc).length - 1)) = T.one (.loc 320 0 _) from by rw [← hcm, List.length_map, List.length_map, hcl]) rfl rfl (by rw [← hcm]; simpa using hp1) rfl rfl (by simp) (by decide) rfl (by rw [← hcm]; simp [maxLen]; omega) (by rw [← hcm]; simp; omega), ?_⟩; (conv => whnf)
      exact ⟨rfl, ⟨close_row rfl rfl (by simp; omega) (by simp only; rw [he]; simp [cutL, List.map_take, List.map_drop]; rfl), close_int rfl, trivial⟩, rfl, ⟨close_int rfl, trivial⟩, trivial⟩
  rw [if_neg h4] at hres'
  refine ⟨p, rfl, by simpa using hp, ?_⟩; (conv => whnf)
  refine ⟨_, at_map0 hp, ?_⟩; (conv => whnf)
  refine ⟨((p : Nat) : Int) + 1, by rw [← wrap64_id] <;> omega, ?_⟩; (conv => whnf)
  refine ⟨_, _, del_ok (sz := 3) (i := p) (es := x.files.map DStored.enc) delStored_h rfl rfl rfl (by simpa using hp) rfl, ?_⟩; (conv => whnf)
  (split <;> rename_i h6 <;> (try simp only [decide_eq_true_eq, decide_eq_false_iff_not, Bool.not_eq_true', Bool.not_eq_false', Bool.not_eq_true, Bool.not_eq_false, List.length_map] at h6) <;> conv => whnf)
  · exact absurd h6 h4
  subst hres'
  exact ⟨rfl, ⟨close_row rfl rfl (by simp; omega) (by simp [cutL, List.map_take, List.map_drop]), close_int rfl, trivial⟩, rfl, ⟨close_int rfl, trivial⟩, trivial⟩
end Go.Proofs.Ytlijeincckbdaaa
