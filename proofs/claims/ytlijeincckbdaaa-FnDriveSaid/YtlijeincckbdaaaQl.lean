/- What DriveDo leaves: the plain law. -/
import Derived.Test.YtlijeincckbdaaaQk
import Derived.Test.YtlijeincckbdaaaQh
namespace Go.Proofs.Ytlijeincckbdaaa
open Go.RowKit
set_option linter.unusedSimpArgs false
set_option linter.unusedVariables false
theorem inK_spec (l : List DStored) (name : ByteArray) : (∀ t (h : t < l.length), t < inK l name → bLt l[t].name name = true) ∧ ∀ h : inK l name < l.length, bLt l[inK l name].name name = false := by
  refine ⟨fun t h ht => ?_, fun h => ?_⟩
  · have := List.not_of_lt_findIdx (p := fun y : DStored => !bLt y.name name) ht
    simpa using this
  · have := List.findIdx_getElem (p := fun y : DStored => !bLt y.name name) (w := h)
    simp only [Bool.not_eq_true'] at this
    exact this
theorem inK_above {d : DDrive} (hd : driveOk d = true) (name : ByteArray) : ∀ t (h : t < d.files.length), inK d.files name ≤ t → bLt d.files[t].name name = false := by
  intro t h ht
  obtain ⟨_, h2⟩ := inK_spec d.files name
  have h2 := h2 (by omega)
  rcases Nat.eq_or_lt_of_le ht with e | e
  · rw [Bool.eq_false_iff] at h2 ⊢
    intro h3
    exact h2 (by simpa only [e] using h3)
  · have h4 := sorted_of hd t _ e h
    rw [Bool.eq_false_iff] at h2 ⊢
    exact fun h5 => h2 (bLt_trans h4 h5)
theorem cmp_lt {a b : ByteArray} (h : bLt a b = true) : cmpB a b < 0 := (cmpB_neg a b).2 h
theorem cmp_ge {a b : ByteArray} (h : bLt a b = false) : 0 ≤ cmpB a b := by
  rcases Int.lt_or_le (cmpB a b) 0 with e | e
  · rw [(cmpB_neg a b).1 e] at h; cases h
  · exact e
theorem inK_findP {d : DDrive} (hd : driveOk d = true) (name : ByteArray) : inK d.files name = findP d.files name :=
  (findP_cut (inK_le _ _) (fun t h ht => cmp_lt ((inK_spec d.files name).1 t h ht)) (fun t h ht => cmp_ge (inK_above hd name t h ht))).symm
theorem isAt_hasN {d : DDrive} (hd : driveOk d = true) (name : ByteArray) : isAt d.files (findP d.files name) name = hasN d.files name := by
  rw [← inK_findP hd]
  unfold isAt
  rcases Nat.lt_or_ge (inK d.files name) d.files.length with e | e
  · rw [List.getElem?_eq_getElem e, hasN_cut hd e (fun t h ht => cmp_lt ((inK_spec d.files name).1 t h ht)) (fun t h ht => cmp_ge (inK_above hd name t h ht))]
    simp only
    rw [decide_eq_decide]
    exact (cmpB_zero _ _).symm
  · rw [List.getElem?_eq_none e]
    exact (hasN_none fun t h => cmp_lt ((inK_spec d.files name).1 t h (by omega))).symm
/-- The list without its element p. -/
def cutL (l : List DStored) (p : Nat) : List DStored := l.take p ++ l.drop (p + 1)
theorem cutL_sub (l : List DStored) (p : Nat) : (cutL l p).Sublist l := by
  unfold cutL
  rw [← List.eraseIdx_eq_take_drop_succ]
  exact List.eraseIdx_sublist _ _
def fileOk (f : DStored) : Prop := nameOk f.name 80 = true ∧ f.text.size ≤ 20000 ∧ 0 ≤ f.synced ∧ f.synced ≤ f.text.size
theorem driveOk_iff (d : DDrive) : driveOk d = true ↔ d.files.length ≤ 60 ∧ 0 ≤ d.room ∧ d.room ≤ 100000 ∧ (∀ f ∈ d.files, fileOk f) ∧ d.files.Pairwise (fun a b => bLt a.name b.name = true) ∧ (usedN d.files : Int) ≤ d.room := by
  constructor
  · intro h
    have h' := h
    unfold driveOk at h'
    simp only [Bool.and_eq_true, decide_eq_true_eq] at h'
    refine ⟨h'.1.1.1.1, h'.1.1.1.2, h'.1.1.2, fun f hf => ?_, ?_, h'.2⟩
    · obtain ⟨k, hk, rfl⟩ := List.mem_iff_getElem.1 hf
      exact fOk_of h hk
    · rw [List.pairwise_iff_getElem]
      exact fun i j hi hj hij => sorted_of h j i hij hj
  · rintro ⟨h1, h2, h3, h4, h5, h6⟩
    unfold driveOk filesOk
    simp only [Bool.and_eq_true, decide_eq_true_eq]
    refine ⟨⟨⟨⟨h1, h2⟩, h3⟩, range_all_true fun i hi => ?_⟩, h6⟩
    rw [fOk_eq hi]
    obtain ⟨g1, g2, g3, g4⟩ := h4 _ (List.getElem_mem hi)
    simp only [Bool.and_eq_true, Bool.or_eq_true, decide_eq_true_eq]
    refine ⟨⟨⟨⟨g1, ?_⟩, g2⟩, g3⟩, g4⟩
    rcases Nat.eq_zero_or_pos i with e | e
    · exact .inl e
    · exact .inr (List.pairwise_iff_getElem.1 h5 (i - 1) i (by omega) hi (by omega))
theorem usedN_sub {l m : List DStored} (h : l.Sublist m) : usedN l ≤ usedN m := by
  unfold usedN
  induction h with
  | slnil => exact Nat.le_refl _
  | cons a h ih => simp only [List.map_cons, List.sum_cons]; omega
  | cons_cons a h ih => simp only [List.map_cons, List.sum_cons]; omega
theorem driveOk_sub {d : DDrive} (hd : driveOk d = true) {l : List DStored} (h : l.Sublist d.files) : driveOk ⟨l, d.room⟩ = true := by
  obtain ⟨h1, h2, h3, h4, h5, h6⟩ := (driveOk_iff d).1 hd
  have := usedN_sub h
  exact (driveOk_iff _).2 ⟨Nat.le_trans h.length_le h1, h2, h3, fun f hf => h4 f (h.subset hf), h5.sublist h, by show (usedN l : Int) ≤ d.room; omega⟩
def noDrive : DDrive := ⟨[], 0⟩
/-- What an op does to a right drive. -/
def doF (x : DDrive) (o : DOp) : DDriveOut :=
  if o.kind = 1 then
    if hasN x.files o.name = true then ⟨noDrive, 7⟩
    else if x.files.length = 60 ∨ x.room < (usedN x.files : Int) + o.text.size then ⟨noDrive, 11⟩
    else ⟨⟨insL x.files ⟨o.name, o.text, 0⟩, x.room⟩, 0⟩
  else if hasN x.files o.name = true then match x.files[findP x.files o.name]? with
    | none => ⟨noDrive, 8⟩
    | some f =>
      if o.kind = 2 then ⟨⟨x.files.set (findP x.files o.name) ⟨f.name, f.text, (f.text.size : Nat)⟩, x.room⟩, 0⟩
      else if o.kind = 3 then
        if o.to = o.name then ⟨x, 0⟩
        else ⟨⟨insL (cutL x.files (findP x.files o.name)) ⟨o.to, f.text, f.synced⟩, x.room⟩, 0⟩
      else ⟨⟨cutL x.files (findP x.files o.name), x.room⟩, 0⟩
  else ⟨noDrive, 8⟩
def driveDoF (x : DDrive) (o : DOp) : DDriveOut := if driveOk x = true ∧ opOk o = true then doF x o else ⟨noDrive, 1⟩
end Go.Proofs.Ytlijeincckbdaaa
namespace Go.Proofs.Ytlijeincckbdaaa
open Go.RowKit
set_option linter.unusedSimpArgs false
set_option linter.unusedVariables false
set_option maxRecDepth 100000
set_option maxHeartbeats 4000000
theorem done_c (x : DDrive) (hx : x.ok) (hd : driveOk x = true) (o : DOp) (ho : o.ok) (ho2 : opOk o = true) (res : DDriveOut) (hres : doF x o = res) :
    Fun1 Try.prog 116 [.agg x.enc, .agg o.enc] (.tup [(true, res.drive.enc), (false, [.lit (.int .i64 res.code)])]) := by
  have hx' := hx
  obtain ⟨⟨hl, hf⟩, hr⟩ := hx
  obtain ⟨q1, q2, q3, q4, q5, q6⟩ := (driveOk_iff x).1 hd
  refine fun1_of_vc tb_ok mix (fn := Try.f116) Try.func116 rfl (by kernel_rfl) (by kernel_rfl) (by simp [Try.f116]) (by show (res.drive.enc.all (AV.nb 5) && (([AV.lit (.int .i64 res.code)].all (AV.nb 5)) && true)) = true; rw [DDrive.enc_nb]; rfl) ?_
  (conv => whnf)
  refine ⟨_, _, find_c x hd o.name hl, (by repeat' (first | exact lends_nil | exact lend_dead | apply lends_cons | apply lend_agg | apply lend_one | exact all2_nil | apply all2_cons | exact la_lit rfl | exact la_int (by first | rfl | omega) | exact la_row rfl rfl | exact la_loc rfl rfl rfl (by first | rfl | simp [mkL_length]) (by first | rfl | simp) | exact la_nil rfl | apply la_fn rfl | exact lend_same rfl rfl | exact lend_bor rfl rfl)), ?_⟩; (conv => whnf)
  refine ⟨_, _, copied_c x hx', (by repeat' (first | exact lends_nil | exact lend_dead | apply lends_cons | apply lend_agg | apply lend_one | exact all2_nil | apply all2_cons | exact la_lit rfl | exact la_int (by first | rfl | omega) | exact la_row rfl rfl | exact la_loc rfl rfl rfl (by first | rfl | simp [mkL_length]) (by first | rfl | simp) | exact la_nil rfl | apply la_fn rfl | exact lend_same rfl rfl | exact lend_bor rfl rfl)), ?_⟩; (conv => whnf)
  (split <;> rename_i h1 <;> (try simp only [decide_eq_true_eq, decide_eq_false_iff_not, Bool.not_eq_true', Bool.not_eq_false', Bool.not_eq_true, Bool.not_eq_false, List.length_map] at h1) <;> conv => whnf)
  · (split <;> rename_i h2 <;> (try simp only [decide_eq_true_eq, decide_eq_false_iff_not, Bool.not_eq_true', Bool.not_eq_false', Bool.not_eq_true, Bool.not_eq_false, List.length_map] at h2) <;> conv => whnf)
    · have : res = ⟨noDrive, 7⟩ := by rw [← hres]; simp [doF, h1, h2]
      subst this
      exact ⟨rfl, ⟨close_nil rfl, close_int rfl, trivial⟩, rfl, ⟨close_int rfl, trivial⟩, trivial⟩
    have full (h : x.files.length = 60 ∨ x.room < (usedN x.files : Int) + o.text.size) : res = ⟨noDrive, 11⟩ := by rw [← hres]; simp only [doF, h1, h2, if_true, Bool.false_eq_true, if_false]; rw [if_pos h]
    (split <;> rename_i h3 <;> (try simp only [decide_eq_true_eq, decide_eq_false_iff_not, Bool.not_eq_true', Bool.not_eq_false', Bool.not_eq_true, Bool.not_eq_false, List.length_map] at h3) <;> conv => whnf)
    · have := full (.inl (by omega))
      subst this
      exact ⟨rfl, ⟨close_nil rfl, close_int rfl, trivial⟩, rfl, ⟨close_int rfl, trivial⟩, trivial⟩
    have hts : o.text.size ≤ 4294967296 := ho.2.2.2
    refine ⟨_, _, usedImpl_c x hx' (by omega), (by repeat' (first | exact lends_nil | exact lend_dead | apply lends_cons | apply lend_agg | apply lend_one | exact all2_nil | apply all2_cons | exact la_lit rfl | exact la_int (by first | rfl | omega) | exact la_row rfl rfl | exact la_loc rfl rfl rfl (by first | rfl | simp [mkL_length]) (by first | rfl | simp) | exact la_nil rfl | apply la_fn rfl | exact lend_same rfl rfl | exact lend_bor rfl rfl)), ?_⟩; (conv => whnf)
    refine ⟨_, _, long_c o.text, (by repeat' (first | exact lends_nil | exact lend_dead | apply lends_cons | apply lend_agg | apply lend_one | exact all2_nil | apply all2_cons | exact la_lit rfl | exact la_int (by first | rfl | omega) | exact la_row rfl rfl | exact la_loc rfl rfl rfl (by first | rfl | simp [mkL_length]) (by first | rfl | simp) | exact la_nil rfl | apply la_fn rfl | exact lend_same rfl rfl | exact lend_bor rfl rfl)), ?_⟩; (conv => whnf)
    refine ⟨((usedN x.files + o.text.size : Nat) : Int), by rw [← wrap64_id] <;> omega, ?_⟩; (conv => whnf)
    (split <;> rename_i h4 <;> (try simp only [decide_eq_true_eq, decide_eq_false_iff_not, Bool.not_eq_true', Bool.not_eq_false', Bool.not_eq_true, Bool.not_eq_false, List.length_map] at h4) <;> conv => whnf)
    · have := full (.inr (by omega))
      subst this
      exact ⟨rfl, ⟨close_nil rfl, close_int rfl, trivial⟩, rfl, ⟨close_int rfl, trivial⟩, trivial⟩
    have : res = ⟨⟨insL x.files ⟨o.name, o.text, 0⟩, x.room⟩, 0⟩ := by
      rw [← hres]; simp only [doF, h1, h2, if_true, Bool.false_eq_true, if_false]; rw [if_neg (by omega)]
    subst this
    have hp : findP x.files o.name ≤ x.files.length := by rw [← inK_findP hd]; exact inK_le _ _
    refine ⟨_, _, ins_ok (sz := 3) (by_ := 40) (i := findP x.files o.name) (es := x.files.map DStored.enc) (vs := [DStored.enc ⟨o.name, o.text, 0⟩]) insStored_h rfl rfl rfl (by simpa using hp) rfl rfl (by simp) (by decide) rfl (by simp [maxLen]; omega) (by simp; omega), ?_⟩; (conv => whnf)
    have he : insL x.files ⟨o.name, o.text, 0⟩ = x.files.take (findP x.files o.name) ++ [⟨o.name, o.text, 0⟩] ++ x.files.drop (findP x.files o.name) := by
      unfold insL
      simp only
      rw [inK_findP hd, isAt_hasN hd, h2]; rfl
    exact ⟨rfl, ⟨close_row rfl rfl (by simp; omega) (by simp only; rw [he]; simp [List.map_take, List.map_drop]; rfl), close_int rfl, trivial⟩, rfl, ⟨close_int rfl, trivial⟩, trivial⟩
  (split <;> rename_i h2 <;> (try simp only [decide_eq_true_eq, decide_eq_false_iff_not, Bool.not_eq_true', Bool.not_eq_false', Bool.not_eq_true, Bool.not_eq_false, List.length_map] at h2) <;> conv => whnf)
  · have : res = ⟨noDrive, 8⟩ := by rw [← hres]; simp [doF, h1, h2]
    subst this
    exact ⟨rfl, ⟨close_nil rfl, close_int rfl, trivial⟩, rfl, ⟨close_int rfl, trivial⟩, trivial⟩
  obtain ⟨hp, _, hn⟩ := findI_eq hd h2
  have hg : x.files[findP x.files o.name]? = some x.files[findP x.files o.name] := List.getElem?_eq_getElem hp
  have hfi := hf _ (List.getElem_mem hp)
  unfold DStored.ok inI at hfi
  have hres' : res = if o.kind = 2 then ⟨⟨x.files.set (findP x.files o.name) ⟨x.files[findP x.files o.name].name, x.files[findP x.files o.name].text, (x.files[findP x.files o.name].text.size : Nat)⟩, x.room⟩, 0⟩
      else if o.kind = 3 then
        if o.to = o.name then ⟨x, 0⟩
        else ⟨⟨insL (cutL x.files (findP x.files o.name)) ⟨o.to, x.files[findP x.files o.name].text, x.files[findP x.files o.name].synced⟩, x.room⟩, 0⟩
      else ⟨⟨cutL x.files (findP x.files o.name), x.room⟩, 0⟩ := by
    rw [← hres]; unfold doF
    rw [if_neg h1, if_pos h2, hg]
  clear hres hg
  generalize hq : findP x.files o.name = p at *
  (split <;> rename_i h3 <;> (try simp only [decide_eq_true_eq, decide_eq_false_iff_not, Bool.not_eq_true', Bool.not_eq_false', Bool.not_eq_true, Bool.not_eq_false, List.length_map] at h3) <;> conv => whnf)
  · rw [if_pos h3] at hres'
    subst hres'
    refine ⟨p, rfl, by simpa using hp, ?_⟩; (conv => whnf)
    refine ⟨_, at_map0 hp, ?_⟩; (conv => whnf)
    refine ⟨_, _, long_c x.files[p].text, (by repeat' (first | exact lends_nil | exact lend_dead | apply lends_cons | apply lend_agg | apply lend_one | exact all2_nil | apply all2_cons | exact la_lit rfl | exact la_int (by first | rfl | omega) | exact la_row rfl rfl | exact la_loc rfl rfl rfl (by first | rfl | simp [mkL_length]) (by first | rfl | simp) | exact la_nil rfl | apply la_fn rfl | exact lend_same rfl rfl | exact lend_bor rfl rfl)), ?_⟩; (conv => whnf)
    refine ⟨p, rfl, by simpa using hp, ?_⟩; (conv => whnf)
    refine ⟨_, at_map0 hp, ?_⟩; (conv => whnf)
    refine ⟨(x.files.set p ⟨x.files[p].name, x.files[p].text, (x.files[p].text.size : Nat)⟩).map DStored.enc, set_enc0 rfl, ?_⟩; (conv => whnf)
    exact ⟨rfl, ⟨close_row rfl rfl (by simp) rfl, close_int rfl, trivial⟩, rfl, ⟨close_int rfl, trivial⟩, trivial⟩
  rw [if_neg h3] at hres'
  (split <;> rename_i h4 <;> (try simp only [decide_eq_true_eq, decide_eq_false_iff_not, Bool.not_eq_true', Bool.not_eq_false', Bool.not_eq_true, Bool.not_eq_false, List.length_map] at h4) <;> conv => whnf)
  · rw [if_pos h4] at hres'
    (split <;> rename_i h5 <;> (try simp only [decide_eq_true_eq, decide_eq_false_iff_not, Bool.not_eq_true', Bool.not_eq_false', Bool.not_eq_true, Bool.not_eq_false, List.length_map] at h5) <;> conv => whnf)
    · rw [if_pos h5] at hres'
      subst hres'
      exact ⟨rfl, ⟨close_row rfl rfl (by simp) rfl, close_int rfl, trivial⟩, rfl, ⟨close_int rfl, trivial⟩, trivial⟩
    rw [if_neg h5] at hres'
    refine ⟨p, rfl, by simpa using hp, ?_⟩; (conv => whnf)
    refine ⟨_, at_map0 hp, ?_⟩; (conv => whnf)
    refine ⟨((p : Nat) : Int) + 1, by rw [← wrap64_id] <;> omega, ?_⟩; (conv => whnf)
    refine ⟨_, _, del_ok (sz := 3) (i := p) (es := x.files.map DStored.enc) delStored_h rfl rfl rfl (by simpa using hp) rfl, ?_⟩; (conv => whnf)
    (split <;> rename_i h6 <;> (try simp only [decide_eq_true_eq, decide_eq_false_iff_not, Bool.not_eq_true', Bool.not_eq_false', Bool.not_eq_true, Bool.not_eq_false, List.length_map] at h6) <;> conv => whnf)
    rotate_left
    · exact absurd h4 h6
    have hd1 : driveOk ⟨cutL x.files p, x.room⟩ = true := driveOk_sub hd (cutL_sub _ _)
    have hcl : (cutL x.files p).length = x.files.length - 1 := by simp [cutL]; omega
    have hcm : (cutL x.files p).map DStored.enc = (x.files.map DStored.enc).take p ++ (x.files.map DStored.enc).drop (p + 1) := by simp [cutL, List.map_take, List.map_drop]
    refine ⟨_, _, find_c ⟨cutL x.files p, x.room⟩ hd1 o.to (by show (cutL x.files p).length ≤ _; omega), lends_cons (lend_agg (all2_cons (la_loc rfl rfl rfl (by simp; omega) hcm) (all2_cons (la_int rfl) all2_nil))) (lends_cons (lend_one (la_str rfl)) lends_nil), ?_⟩; (conv => whnf)
    subst hres'
    have hik := inK_findP hd1 o.to
    have hia := isAt_hasN hd1 o.to
    have hp1 : findP (cutL x.files p) o.to ≤ (cutL x.files p).length := by rw [← hik]; exact inK_le _ _
    simp only at hik hia
    (split <;> rename_i h7 <;> (try simp only [decide_eq_true_eq, decide_eq_false_iff_not, Bool.not_eq_true', Bool.not_eq_false', Bool.not_eq_true, Bool.not_eq_false, List.length_map] at h7) <;> conv => whnf)
    · obtain ⟨hp2, _, hn2⟩ := findI_eq hd1 h7
      refine ⟨_, rfl, by simp; simp only at hp2; omega, ?_⟩; (conv => whnf)
      refine ⟨_, by rw [← hcm]; exact at_map0 hp2, ?_⟩; (conv => whnf)
      refine ⟨((cutL x.files p).set (findP (cutL x.files p) o.to) ⟨o.to, x.files[p].text, x.files[p].synced⟩).map DStored.enc, by rw [← hcm]; exact set_enc0 rfl, ?_⟩; (conv => whnf)
      have he : insL (cutL x.files p) ⟨o.to, x.files[p].text, x.files[p].synced⟩ = (cutL x.files p).set (findP (cutL x.files p) o.to) ⟨o.to, x.files[p].text, x.files[p].synced⟩ := by
        unfold insL
        simp only
        rw [hik, hia, h7, if_pos rfl, List.set_eq_take_append_cons_drop, if_pos hp2]
        simp
      exact ⟨rfl, ⟨close_row rfl rfl (by simp; omega) (by simp only; rw [he]), close_int rfl, trivial⟩, rfl, ⟨close_int rfl, trivial⟩, trivial⟩
    · have he : insL (cutL x.files p) ⟨o.to, x.files[p].text, x.files[p].synced⟩ = (cutL x.files p).take (findP (cutL x.files p) o.to) ++ [⟨o.to, x.files[p].text, x.files[p].synced⟩] ++ (cutL x.files p).drop (findP (cutL x.files p) o.to) := by
        unfold insL
        simp only
        rw [hik, hia, h7]; rfl
      refine ⟨_, _, ins_ok (sz := 3) (by_ := 40) (i := findP (cutL x.files p) o.to) (es := (x.files.map DStored.enc).take p ++ (x.files.map DStored.enc).drop (p + 1)) (vs := [DStored.enc ⟨o.to, x.files[p].text, x.files[p].synced⟩]) insStored_h (s := 320) (show T.one (.loc 320 0 ((x.files.map DStored.enc).length - 1)) = T.one (.loc 320 0 _) from by rw [← hcm, List.length_map, List.length_map, hcl]) rfl rfl (by rw [← hcm]; simpa using hp1) rfl rfl (by simp) (by decide) rfl (by rw [← hcm]; simp [maxLen]; omega) (by rw [← hcm]; simp; omega), ?_⟩; (conv => whnf)
      exact ⟨rfl, ⟨close_row rfl rfl (by simp; omega) (by simp only; rw [he]; simp [cutL, List.map_take, List.map_drop]; rfl), close_int rfl, trivial⟩, rfl, ⟨close_int rfl, trivial⟩, trivial⟩
  rw [if_neg h4] at hres'
  refine ⟨p, rfl, by simpa using hp, ?_⟩; (conv => whnf)
  refine ⟨_, at_map0 hp, ?_⟩; (conv => whnf)
  refine ⟨((p : Nat) : Int) + 1, by rw [← wrap64_id] <;> omega, ?_⟩; (conv => whnf)
  refine ⟨_, _, del_ok (sz := 3) (i := p) (es := x.files.map DStored.enc) delStored_h rfl rfl rfl (by simpa using hp) rfl, ?_⟩; (conv => whnf)
  (split <;> rename_i h6 <;> (try simp only [decide_eq_true_eq, decide_eq_false_iff_not, Bool.not_eq_true', Bool.not_eq_false', Bool.not_eq_true, Bool.not_eq_false, List.length_map] at h6) <;> conv => whnf)
  · exact absurd h6 h4
  subst hres'
  exact ⟨rfl, ⟨close_row rfl rfl (by simp; omega) (by simp [cutL, List.map_take, List.map_drop]), close_int rfl, trivial⟩, rfl, ⟨close_int rfl, trivial⟩, trivial⟩
end Go.Proofs.Ytlijeincckbdaaa
namespace Go.Proofs.Ytlijeincckbdaaa
open Go.RowKit
set_option linter.unusedSimpArgs false
set_option linter.unusedVariables false
set_option maxRecDepth 100000
set_option maxHeartbeats 4000000
theorem driveDoImpl_c (x : DDrive) (hx : x.ok) (hu : usedN x.files ≤ 1000000000000) (o : DOp) (ho : o.ok) (res : DDriveOut) (hres : driveDoF x o = res) :
    Fun1 Try.prog 34 [.agg x.enc, .agg o.enc] (.agg res.enc) := by
  refine fun1_of_vc tb_ok mix (fn := Try.f34) Try.func34 rfl (by kernel_rfl) (by kernel_rfl) (by simp [Try.f34]) (by exact DDriveOut.enc_nb _) ?_
  (conv => whnf)
  refine ⟨_, _, driveImpl_c x hx hu, (by repeat' (first | exact lends_nil | exact lend_dead | apply lends_cons | apply lend_agg | apply lend_one | exact all2_nil | apply all2_cons | exact la_lit rfl | exact la_int (by first | rfl | omega) | exact la_row rfl rfl | exact la_loc rfl rfl rfl (by first | rfl | simp [mkL_length]) (by first | rfl | simp) | exact la_nil rfl | apply la_fn rfl | exact lend_same rfl rfl | exact lend_bor rfl rfl)), ?_⟩; (conv => whnf)
  (split <;> rename_i h1 <;> (try simp only [decide_eq_true_eq, decide_eq_false_iff_not, Bool.not_eq_true', Bool.not_eq_false', Bool.not_eq_true, Bool.not_eq_false, List.length_map] at h1) <;> conv => whnf)
  · have : res = ⟨noDrive, 1⟩ := by rw [← hres]; simp [driveDoF, h1]
    subst this
    exact ⟨close_nil rfl, close_int rfl, close_int rfl, trivial⟩
  refine ⟨_, _, opImpl_c o ho, (by repeat' (first | exact lends_nil | exact lend_dead | apply lends_cons | apply lend_agg | apply lend_one | exact all2_nil | apply all2_cons | exact la_lit rfl | exact la_int (by first | rfl | omega) | exact la_row rfl rfl | exact la_loc rfl rfl rfl (by first | rfl | simp [mkL_length]) (by first | rfl | simp) | exact la_nil rfl | apply la_fn rfl | exact lend_same rfl rfl | exact lend_bor rfl rfl)), ?_⟩; (conv => whnf)
  (split <;> rename_i h2 <;> (try simp only [decide_eq_true_eq, decide_eq_false_iff_not, Bool.not_eq_true', Bool.not_eq_false', Bool.not_eq_true, Bool.not_eq_false, List.length_map] at h2) <;> conv => whnf)
  · have : res = ⟨noDrive, 1⟩ := by rw [← hres]; simp [driveDoF, h1, h2]
    subst this
    exact ⟨close_nil rfl, close_int rfl, close_int rfl, trivial⟩
  have hd : doF x o = res := by rw [← hres]; simp [driveDoF, h1, h2]
  refine ⟨_, _, done_c x hx h1 o ho h2 res hd, (by repeat' (first | exact lends_nil | exact lend_dead | apply lends_cons | apply lend_agg | apply lend_one | exact all2_nil | apply all2_cons | exact la_lit rfl | exact la_int (by first | rfl | omega) | exact la_row rfl rfl | exact la_loc rfl rfl rfl (by first | rfl | simp [mkL_length]) (by first | rfl | simp) | exact la_nil rfl | apply la_fn rfl | exact lend_same rfl rfl | exact lend_bor rfl rfl)), ?_⟩; (conv => whnf)
  exact (by repeat' (first | exact trivial | exact close_int rfl | exact close_str rfl | exact close_bool rfl | exact close_int (by omega) | exact close_row rfl rfl (by first | rfl | simp) (by first | rfl | simp) | exact close_nil (by first | rfl | simp) | exact rfl | apply And.intro | apply closeTs_cons rfl))
end Go.Proofs.Ytlijeincckbdaaa
namespace Go.Proofs.Ytlijeincckbdaaa
open Go.RowKit
set_option linter.unusedSimpArgs false
set_option linter.unusedVariables false
set_option maxRecDepth 100000
set_option maxHeartbeats 4000000
theorem l08Out_c (l : List DStored) (hl : l.length ≤ 4294967296) (i : Nat) (hi : i < l.length) : Fun1 Try.prog 193 [.one (.row true 3 (l.map DStored.enc)), .one (.lit (.int .i64 i))] (.one (.row true 3 ((cutL l i).map DStored.enc))) := by
  refine fun1_of_vc (E := tbO193) (tbF_ok _) mix (fn := Try.f193) Try.func193 rfl (by kernel_rfl) (by kernel_rfl) (by simp [Try.f193]) (by show AV.nb (4 + 1) _ = true; exact nb_map (n := 4) (fun y => DStored.enc_nbn 4 y) _) ?_
  (conv => whnf)
  refine ⟨by decide, by simp, by simp; omega, (l.take i).map DStored.enc, by simp [List.map_take], ?_⟩; (conv => whnf)
  refine ⟨((i + 1 : Nat) : Int), by rw [← wrap64_id] <;> omega, ?_⟩; (conv => whnf)
  refine ⟨by simp; omega, by simp; omega, by simp, (l.drop (i + 1)).map DStored.enc, by simp only [List.map_drop]; exact (List.take_of_length_le (by simp)).symm, ?_⟩; (conv => whnf)
  refine ⟨true, _, ⟨rfl, rfl, rfl⟩, ?_⟩; (conv => whnf)
  refine ⟨_, laid_map (f := DStored.enc) (fun _ => rfl) (l.take i), rfl, rfl, rfl, by simp [maxLen, chunk]; omega, by simp [chunk]; omega, ?_⟩; (conv => whnf)
  refine ⟨true, _, ⟨rfl, rfl, rfl⟩, ?_⟩; (conv => whnf)
  refine ⟨_, laid_map (f := DStored.enc) (fun _ => rfl) (l.drop (i + 1)), rfl, by simp [chunk], rfl, by simp [maxLen, chunk]; omega, by simp [chunk]; omega, ?_⟩; (conv => whnf)
  exact ⟨close_row rfl rfl (by simp [chunk]) (by simp [chunk, cutL]), trivial⟩
end Go.Proofs.Ytlijeincckbdaaa
namespace Go.Proofs.Ytlijeincckbdaaa
open Go.RowKit
set_option linter.unusedSimpArgs false
set_option linter.unusedVariables false
set_option maxRecDepth 100000
set_option maxHeartbeats 4000000
theorem l08Do_c (x : DDrive) (hx : x.ok) (hd : driveOk x = true) (o : DOp) (ho : o.ok) (ho2 : opOk o = true) (res : DDriveOut) (hres : doF x o = res) :
    Fun1 Try.prog 118 [.agg x.enc, .agg o.enc] (.agg res.enc) := by
  have hx' := hx
  obtain ⟨⟨hl, hf⟩, hr⟩ := hx
  obtain ⟨q1, q2, q3, q4, q5, q6⟩ := (driveOk_iff x).1 hd
  refine fun1_of_vc tb_ok mix (fn := Try.f118) Try.func118 rfl (by kernel_rfl) (by kernel_rfl) (by simp [Try.f118]) (by exact DDriveOut.enc_nb _) ?_
  (conv => whnf)
  refine ⟨_, _, l08Find_c x o.name hl, (by repeat' (first | exact lends_nil | exact lend_dead | apply lends_cons | apply lend_agg | apply lend_one | exact all2_nil | apply all2_cons | exact la_lit rfl | exact la_int (by first | rfl | omega) | exact la_row rfl rfl | exact la_loc rfl rfl rfl (by first | rfl | simp [mkL_length]) (by first | rfl | simp) | exact la_nil rfl | apply la_fn rfl | exact lend_same rfl rfl | exact lend_bor rfl rfl)), ?_⟩; (conv => whnf)
  (split <;> rename_i h1 <;> (try simp only [decide_eq_true_eq, decide_eq_false_iff_not, Bool.not_eq_true', Bool.not_eq_false', Bool.not_eq_true, Bool.not_eq_false, List.length_map] at h1) <;> conv => whnf)
  · by_cases h2 : hasN x.files o.name = true
    · obtain ⟨hp, he, hn⟩ := findI_eq hd h2
      have : res = ⟨noDrive, 7⟩ := by rw [← hres]; simp [doF, h1, h2]
      subst this
      rw [he]
      (split <;> rename_i h3 <;> (try simp only [decide_eq_true_eq, decide_eq_false_iff_not, Bool.not_eq_true', Bool.not_eq_false', Bool.not_eq_true, Bool.not_eq_false, List.length_map] at h3) <;> conv => whnf)
      · exact ⟨close_nil rfl, close_int rfl, close_int rfl, trivial⟩
      · omega
    have hf1 : findI x.files o.name = -1 := by simp [findI, h2]
    have full (h : x.files.length = 60 ∨ x.room < (usedN x.files : Int) + o.text.size) : res = ⟨noDrive, 11⟩ := by rw [← hres]; simp only [doF, h1, h2, if_true, Bool.false_eq_true, if_false]; rw [if_pos h]
    (split <;> rename_i h3 <;> (try simp only [decide_eq_true_eq, decide_eq_false_iff_not, Bool.not_eq_true', Bool.not_eq_false', Bool.not_eq_true, Bool.not_eq_false, List.length_map] at h3) <;> conv => whnf)
    · omega
    (split <;> rename_i h4 <;> (try simp only [decide_eq_true_eq, decide_eq_false_iff_not, Bool.not_eq_true', Bool.not_eq_false', Bool.not_eq_true, Bool.not_eq_false, List.length_map] at h4) <;> conv => whnf)
    · have := full (.inl (by omega))
      subst this
      exact ⟨close_nil rfl, close_int rfl, close_int rfl, trivial⟩
    have hts : o.text.size ≤ 4294967296 := ho.2.2.2
    refine ⟨_, _, usedSpec_c x hx' (by omega), (by repeat' (first | exact lends_nil | exact lend_dead | apply lends_cons | apply lend_agg | apply lend_one | exact all2_nil | apply all2_cons | exact la_lit rfl | exact la_int (by first | rfl | omega) | exact la_row rfl rfl | exact la_loc rfl rfl rfl (by first | rfl | simp [mkL_length]) (by first | rfl | simp) | exact la_nil rfl | apply la_fn rfl | exact lend_same rfl rfl | exact lend_bor rfl rfl)), ?_⟩; (conv => whnf)
    refine ⟨((usedN x.files + o.text.size : Nat) : Int), by rw [← wrap64_id] <;> omega, ?_⟩; (conv => whnf)
    (split <;> rename_i h5 <;> (try simp only [decide_eq_true_eq, decide_eq_false_iff_not, Bool.not_eq_true', Bool.not_eq_false', Bool.not_eq_true, Bool.not_eq_false, List.length_map] at h5) <;> conv => whnf)
    · have := full (.inr (by omega))
      subst this
      exact ⟨close_nil rfl, close_int rfl, close_int rfl, trivial⟩
    have : res = ⟨⟨insL x.files ⟨o.name, o.text, 0⟩, x.room⟩, 0⟩ := by
      rw [← hres]; simp only [doF, h1, h2, if_true, Bool.false_eq_true, if_false]; rw [if_neg (by omega)]
    subst this
    refine ⟨_, _, l08In_c x.files (by omega) ⟨o.name, o.text, 0⟩, (by repeat' (first | exact lends_nil | exact lend_dead | apply lends_cons | apply lend_agg | apply lend_one | exact all2_nil | apply all2_cons | exact la_lit rfl | exact la_int (by first | rfl | omega) | exact la_row rfl rfl | exact la_loc rfl rfl rfl (by first | rfl | simp [mkL_length]) (by first | rfl | simp) | exact la_nil rfl | apply la_fn rfl | exact lend_same rfl rfl | exact lend_bor rfl rfl)), ?_⟩; (conv => whnf)
    exact (by repeat' (first | exact trivial | exact close_int rfl | exact close_str rfl | exact close_bool rfl | exact close_int (by omega) | exact close_row rfl rfl (by first | rfl | simp) (by first | rfl | simp) | exact close_nil (by first | rfl | simp) | exact rfl | apply And.intro | apply closeTs_cons rfl))
  by_cases h2 : hasN x.files o.name = true
  case neg =>
    have hf1 : findI x.files o.name = -1 := by simp [findI, h2]
    have : res = ⟨noDrive, 8⟩ := by rw [← hres]; simp [doF, h1, h2]
    subst this
    (split <;> rename_i h3 <;> (try simp only [decide_eq_true_eq, decide_eq_false_iff_not, Bool.not_eq_true', Bool.not_eq_false', Bool.not_eq_true, Bool.not_eq_false, List.length_map] at h3) <;> conv => whnf)
    · exact ⟨close_nil rfl, close_int rfl, close_int rfl, trivial⟩
    · omega
  obtain ⟨hp, he, hn⟩ := findI_eq hd h2
  rw [he]
  (split <;> rename_i h3 <;> (try simp only [decide_eq_true_eq, decide_eq_false_iff_not, Bool.not_eq_true', Bool.not_eq_false', Bool.not_eq_true, Bool.not_eq_false, List.length_map] at h3) <;> conv => whnf)
  · omega
  have hg : x.files[findP x.files o.name]? = some x.files[findP x.files o.name] := List.getElem?_eq_getElem hp
  have hfi := hf _ (List.getElem_mem hp)
  unfold DStored.ok inI at hfi
  have hres' : res = if o.kind = 2 then ⟨⟨x.files.set (findP x.files o.name) ⟨x.files[findP x.files o.name].name, x.files[findP x.files o.name].text, (x.files[findP x.files o.name].text.size : Nat)⟩, x.room⟩, 0⟩
      else if o.kind = 3 then
        if o.to = o.name then ⟨x, 0⟩
        else ⟨⟨insL (cutL x.files (findP x.files o.name)) ⟨o.to, x.files[findP x.files o.name].text, x.files[findP x.files o.name].synced⟩, x.room⟩, 0⟩
      else ⟨⟨cutL x.files (findP x.files o.name), x.room⟩, 0⟩ := by
    rw [← hres]; unfold doF
    rw [if_neg h1, if_pos h2, hg]
  clear hres hg
  generalize hq : findP x.files o.name = p at *
  refine ⟨p, rfl, _, at_map hp, ?_⟩; (conv => whnf)
  refine ⟨_, _, l08Copy_c x hx', (by repeat' (first | exact lends_nil | exact lend_dead | apply lends_cons | apply lend_agg | apply lend_one | exact all2_nil | apply all2_cons | exact la_lit rfl | exact la_int (by first | rfl | omega) | exact la_row rfl rfl | exact la_loc rfl rfl rfl (by first | rfl | simp [mkL_length]) (by first | rfl | simp) | exact la_nil rfl | apply la_fn rfl | exact lend_same rfl rfl | exact lend_bor rfl rfl)), ?_⟩; (conv => whnf)
  (split <;> rename_i h4 <;> (try simp only [decide_eq_true_eq, decide_eq_false_iff_not, Bool.not_eq_true', Bool.not_eq_false', Bool.not_eq_true, Bool.not_eq_false, List.length_map] at h4) <;> conv => whnf)
  · rw [if_pos h4] at hres'
    subst hres'
    refine ⟨p, rfl, by simpa using hp, ?_⟩; (conv => whnf)
    refine ⟨_, at_map0 hp, ?_⟩; (conv => whnf)
    refine ⟨(x.files.set p ⟨x.files[p].name, x.files[p].text, (x.files[p].text.size : Nat)⟩).map DStored.enc, set_enc0 rfl, ?_⟩; (conv => whnf)
    exact ⟨close_row rfl rfl (by simp) rfl, close_int rfl, close_int rfl, trivial⟩
  rw [if_neg h4] at hres'
  (split <;> rename_i h5 <;> (try simp only [decide_eq_true_eq, decide_eq_false_iff_not, Bool.not_eq_true', Bool.not_eq_false', Bool.not_eq_true, Bool.not_eq_false, List.length_map] at h5) <;> conv => whnf)
  · rw [if_pos h5] at hres'
    (split <;> rename_i h6 <;> (try simp only [decide_eq_true_eq, decide_eq_false_iff_not, Bool.not_eq_true', Bool.not_eq_false', Bool.not_eq_true, Bool.not_eq_false, List.length_map] at h6) <;> conv => whnf)
    · rw [if_neg h6] at hres'
      subst hres'
      refine ⟨_, _, l08Out_c x.files hl p hp, (by repeat' (first | exact lends_nil | exact lend_dead | apply lends_cons | apply lend_agg | apply lend_one | exact all2_nil | apply all2_cons | exact la_lit rfl | exact la_int (by first | rfl | omega) | exact la_row rfl rfl | exact la_loc rfl rfl rfl (by first | rfl | simp [mkL_length]) (by first | rfl | simp) | exact la_nil rfl | apply la_fn rfl | exact lend_same rfl rfl | exact lend_bor rfl rfl)), ?_⟩; (conv => whnf)
      refine ⟨_, _, l08In_c (cutL x.files p) (Nat.le_trans (cutL_sub _ _).length_le (by omega)) ⟨o.to, x.files[p].text, x.files[p].synced⟩, (by repeat' (first | exact lends_nil | exact lend_dead | apply lends_cons | apply lend_agg | apply lend_one | exact all2_nil | apply all2_cons | exact la_lit rfl | exact la_int (by first | rfl | omega) | exact la_row rfl rfl | exact la_loc rfl rfl rfl (by first | rfl | simp [mkL_length]) (by first | rfl | simp) | exact la_nil rfl | apply la_fn rfl | exact lend_same rfl rfl | exact lend_bor rfl rfl)), ?_⟩; (conv => whnf)
      exact (by repeat' (first | exact trivial | exact close_int rfl | exact close_str rfl | exact close_bool rfl | exact close_int (by omega) | exact close_row rfl rfl (by first | rfl | simp) (by first | rfl | simp) | exact close_nil (by first | rfl | simp) | exact rfl | apply And.intro | apply closeTs_cons rfl))
    · rw [if_pos (by simpa using h6)] at hres'
      subst hres'
      exact ⟨close_row rfl rfl (by simp) rfl, close_int rfl, close_int rfl, trivial⟩
  rw [if_neg h5] at hres'
  subst hres'
  refine ⟨_, _, l08Out_c x.files hl p hp, (by repeat' (first | exact lends_nil | exact lend_dead | apply lends_cons | apply lend_agg | apply lend_one | exact all2_nil | apply all2_cons | exact la_lit rfl | exact la_int (by first | rfl | omega) | exact la_row rfl rfl | exact la_loc rfl rfl rfl (by first | rfl | simp [mkL_length]) (by first | rfl | simp) | exact la_nil rfl | apply la_fn rfl | exact lend_same rfl rfl | exact lend_bor rfl rfl)), ?_⟩; (conv => whnf)
  exact (by repeat' (first | exact trivial | exact close_int rfl | exact close_str rfl | exact close_bool rfl | exact close_int (by omega) | exact close_row rfl rfl (by first | rfl | simp) (by first | rfl | simp) | exact close_nil (by first | rfl | simp) | exact rfl | apply And.intro | apply closeTs_cons rfl))
theorem driveDoSpec_c (x : DDrive) (hx : x.ok) (hu : usedN x.files ≤ 1000000000000) (o : DOp) (ho : o.ok) (res : DDriveOut) (hres : driveDoF x o = res) :
    Fun1 Try.prog 35 [.agg x.enc, .agg o.enc] (.agg res.enc) := by
  refine fun1_of_vc tb_ok mix (fn := Try.f35) Try.func35 rfl (by kernel_rfl) (by kernel_rfl) (by simp [Try.f35]) (by exact DDriveOut.enc_nb _) ?_
  (conv => whnf)
  refine ⟨_, _, driveSpec_c x hx hu, (by repeat' (first | exact lends_nil | exact lend_dead | apply lends_cons | apply lend_agg | apply lend_one | exact all2_nil | apply all2_cons | exact la_lit rfl | exact la_int (by first | rfl | omega) | exact la_row rfl rfl | exact la_loc rfl rfl rfl (by first | rfl | simp [mkL_length]) (by first | rfl | simp) | exact la_nil rfl | apply la_fn rfl | exact lend_same rfl rfl | exact lend_bor rfl rfl)), ?_⟩; (conv => whnf)
  (split <;> rename_i h1 <;> (try simp only [decide_eq_true_eq, decide_eq_false_iff_not, Bool.not_eq_true', Bool.not_eq_false', Bool.not_eq_true, Bool.not_eq_false, List.length_map] at h1) <;> conv => whnf)
  · have : res = ⟨noDrive, 1⟩ := by rw [← hres]; simp [driveDoF, h1]
    subst this
    exact ⟨close_nil rfl, close_int rfl, close_int rfl, trivial⟩
  refine ⟨_, _, opSpec_c o ho, (by repeat' (first | exact lends_nil | exact lend_dead | apply lends_cons | apply lend_agg | apply lend_one | exact all2_nil | apply all2_cons | exact la_lit rfl | exact la_int (by first | rfl | omega) | exact la_row rfl rfl | exact la_loc rfl rfl rfl (by first | rfl | simp [mkL_length]) (by first | rfl | simp) | exact la_nil rfl | apply la_fn rfl | exact lend_same rfl rfl | exact lend_bor rfl rfl)), ?_⟩; (conv => whnf)
  (split <;> rename_i h2 <;> (try simp only [decide_eq_true_eq, decide_eq_false_iff_not, Bool.not_eq_true', Bool.not_eq_false', Bool.not_eq_true, Bool.not_eq_false, List.length_map] at h2) <;> conv => whnf)
  · have : res = ⟨noDrive, 1⟩ := by rw [← hres]; simp [driveDoF, h1, h2]
    subst this
    exact ⟨close_nil rfl, close_int rfl, close_int rfl, trivial⟩
  have hd : doF x o = res := by rw [← hres]; simp [driveDoF, h1, h2]
  refine ⟨_, _, l08Do_c x hx h1 o ho h2 res hd, (by repeat' (first | exact lends_nil | exact lend_dead | apply lends_cons | apply lend_agg | apply lend_one | exact all2_nil | apply all2_cons | exact la_lit rfl | exact la_int (by first | rfl | omega) | exact la_row rfl rfl | exact la_loc rfl rfl rfl (by first | rfl | simp [mkL_length]) (by first | rfl | simp) | exact la_nil rfl | apply la_fn rfl | exact lend_same rfl rfl | exact lend_bor rfl rfl)), ?_⟩; (conv => whnf)
  exact (by repeat' (first | exact trivial | exact close_int rfl | exact close_str rfl | exact close_bool rfl | exact close_int (by omega) | exact close_row rfl rfl (by first | rfl | simp) (by first | rfl | simp) | exact close_nil (by first | rfl | simp) | exact rfl | apply And.intro | apply closeTs_cons rfl))
end Go.Proofs.Ytlijeincckbdaaa
namespace Go.Proofs.Ytlijeincckbdaaa
open Go.RowKit
set_option linter.unusedSimpArgs false
set_option linter.unusedVariables false
theorem insL_mem {l : List DStored} {f y : DStored} (h : y ∈ insL l f) : y = f ∨ y ∈ l := by
  unfold insL at h
  simp only [List.mem_append, List.mem_singleton] at h
  rcases h with (h | h) | h
  · exact .inr (List.mem_of_mem_take h)
  · exact .inl h
  · exact .inr (List.mem_of_mem_drop h)
theorem insL_len (l : List DStored) (f : DStored) : (insL l f).length ≤ l.length + 1 := by
  have := inK_le l f.name
  unfold insL
  simp only [List.length_append, List.length_take, List.length_drop, List.length_singleton]
  omega
theorem in0 : inI 0 := ⟨by decide, by decide⟩
theorem noDrive_ok : noDrive.ok := ⟨⟨by simp [noDrive], fun y hy => by simp [noDrive] at hy⟩, by decide, by decide⟩
theorem doF_ok (x : DDrive) (hx : x.ok) (hd : driveOk x = true) (o : DOp) (ho : o.ok) : (doF x o).ok ∧ (doF x o).drive.files.length ≤ 61 := by
  obtain ⟨q1, q2, q3, q4, q5, q6⟩ := (driveOk_iff x).1 hd
  obtain ⟨⟨hl, hf⟩, hr⟩ := hx
  have hno : ∀ c : Int, inI c → (⟨noDrive, c⟩ : DDriveOut).ok ∧ (⟨noDrive, c⟩ : DDriveOut).drive.files.length ≤ 61 := fun c hc => ⟨⟨noDrive_ok, hc⟩, by simp [noDrive]⟩
  have hmk : ∀ l : List DStored, l.length ≤ 61 → (∀ y ∈ l, y.ok) → (⟨⟨l, x.room⟩, 0⟩ : DDriveOut).ok ∧ (⟨⟨l, x.room⟩, 0⟩ : DDriveOut).drive.files.length ≤ 61 := fun l h1 h2 => ⟨⟨⟨⟨by show l.length ≤ _; omega, h2⟩, hr⟩, in0⟩, h1⟩
  unfold doF
  split
  · split
    · exact hno _ ⟨by decide, by decide⟩
    · split
      · exact hno _ ⟨by decide, by decide⟩
      · refine hmk _ (Nat.le_trans (insL_len _ _) (by omega)) fun y hy => ?_
        rcases insL_mem hy with rfl | h
        · exact ⟨ho.2.1, ho.2.2.2, in0⟩
        · exact hf y h
  · split
    · split
      · exact hno _ ⟨by decide, by decide⟩
      · rename_i f hg
        have hfo := hf f (List.mem_of_getElem? hg)
        have hc : ∀ y ∈ cutL x.files (findP x.files o.name), y.ok := fun y hy => hf y ((cutL_sub _ _).subset hy)
        have hcl := (cutL_sub x.files (findP x.files o.name)).length_le
        split
        · refine hmk _ (by simpa using Nat.le_trans q1 (by omega)) fun y hy => ?_
          rcases List.mem_or_eq_of_mem_set hy with h | h
          · exact hf y h
          · subst h
            refine ⟨hfo.1, hfo.2.1, ?_⟩
            have := hfo.2.1
            unfold inI
            simp only
            omega
        · split
          · split
            · exact ⟨⟨⟨⟨hl, hf⟩, hr⟩, in0⟩, by show x.files.length ≤ 61; omega⟩
            · refine hmk _ (Nat.le_trans (insL_len _ _) (by omega)) fun y hy => ?_
              rcases insL_mem hy with rfl | h
              · exact ⟨ho.2.2.1, hfo.2.1, hfo.2.2⟩
              · exact hc y h
          · exact hmk _ (by omega) hc
    · exact hno _ ⟨by decide, by decide⟩
theorem driveDoF_ok (x : DDrive) (hx : x.ok) (o : DOp) (ho : o.ok) : (driveDoF x o).ok ∧ (driveDoF x o).drive.files.length ≤ 61 := by
  unfold driveDoF
  split
  · rename_i h
    exact doF_ok x hx h.1 o ho
  · exact ⟨⟨noDrive_ok, by decide, by decide⟩, by simp [noDrive]⟩
end Go.Proofs.Ytlijeincckbdaaa
namespace Go.Proofs.Ytlijeincckbdaaa
open Go.RowKit
set_option linter.unusedSimpArgs false
set_option linter.unusedVariables false
theorem cmp_swap : ∀ (x y : List UInt8), Lib.compareBytes y x = - Lib.compareBytes x y
  | [], [] => by simp [Lib.compareBytes]
  | _ :: _, [] => by simp [Lib.compareBytes]
  | [], _ :: _ => by simp [Lib.compareBytes]
  | a :: x, b :: y => by
    simp only [Lib.compareBytes]
    by_cases h1 : a < b
    · have h2 : ¬ b < a := fun h => u8_irrefl a (u8_trans h1 h)
      simp [h1, h2]
    · by_cases h2 : b < a
      · simp [h1, h2]
      · simp [h1, h2, cmp_swap x y]
theorem bLt_tri (a b : ByteArray) : bLt a b = true ∨ a = b ∨ bLt b a = true := by
  have h : cmpB b a = - cmpB a b := cmp_swap _ _
  rcases Int.lt_trichotomy (cmpB a b) 0 with h1 | h1 | h1
  · exact .inl ((cmpB_neg _ _).1 h1)
  · exact .inr (.inl ((cmpB_zero _ _).1 h1))
  · exact .inr (.inr ((cmpB_neg _ _).1 (by omega)))
def Sorted (l : List DStored) : Prop := l.Pairwise fun a b => bLt a.name b.name = true
theorem insL_sorted {l : List DStored} (hs : Sorted l) (f : DStored) : Sorted (insL l f) := by
  obtain ⟨h1, h2⟩ := inK_spec l f.name
  have hle := inK_le l f.name
  have hsi := List.pairwise_iff_getElem.1 hs
  unfold insL Sorted
  rw [List.pairwise_append, List.pairwise_append]
  have hd : ∀ y ∈ l.drop (inK l f.name + (if isAt l (inK l f.name) f.name = true then 1 else 0)), bLt f.name y.name = true := by
    intro y hy
    obtain ⟨t, ht, rfl⟩ := List.mem_iff_getElem.1 hy
    rw [List.getElem_drop]
    rw [List.length_drop] at ht
    generalize hq : inK l f.name = k at *
    have hk : k < l.length := by omega
    have hge : bLt l[k].name f.name = false := h2 hk
    by_cases hat : isAt l k f.name = true
    · simp only [hat, if_true] at ht ⊢
      have he : l[k].name = f.name := by
        unfold isAt at hat
        rw [List.getElem?_eq_getElem hk] at hat
        exact of_decide_eq_true hat
      have := hsi k (k + 1 + t) hk (by omega) (by omega)
      rw [he] at this; exact this
    · simp only [hat, if_neg, Nat.add_zero] at ht ⊢
      have hne : ¬ l[k].name = f.name := by
        intro e
        apply hat
        unfold isAt
        rw [List.getElem?_eq_getElem hk]
        exact decide_eq_true e
      have hlt : bLt f.name l[k].name = true := by
        rcases bLt_tri f.name l[k].name with h | h | h
        · exact h
        · exact absurd h.symm hne
        · rw [hge] at h; cases h
      by_cases e0 : t = 0
      · subst e0; simpa using hlt
      · exact bLt_trans hlt (hsi k (k + t) hk (by simp at ht; omega) (by omega))
  refine ⟨⟨hs.sublist (List.take_sublist _ _), List.pairwise_singleton _ _, fun a ha b hb => ?_⟩, hs.sublist (List.drop_sublist _ _), fun a ha b hb => ?_⟩
  · rw [List.mem_singleton] at hb
    subst hb
    obtain ⟨t, ht, rfl⟩ := List.mem_iff_getElem.1 ha
    rw [List.getElem_take]
    rw [List.length_take] at ht
    exact h1 t (by omega) (by omega)
  · have hfb := hd b hb
    rw [List.mem_append, List.mem_singleton] at ha
    rcases ha with ha | rfl
    · obtain ⟨t, ht, rfl⟩ := List.mem_iff_getElem.1 ha
      rw [List.getElem_take]
      rw [List.length_take] at ht
      exact bLt_trans (h1 t (by omega) (by omega)) hfb
    · exact hfb
theorem usedN_append (a b : List DStored) : usedN (a ++ b) = usedN a + usedN b := by simp [usedN]
theorem usedN_take_drop (l : List DStored) (k : Nat) : usedN (l.take k) + usedN (l.drop k) = usedN l := by rw [← usedN_append, List.take_append_drop]
theorem insL_used (l : List DStored) (f : DStored) : usedN (insL l f) ≤ usedN l + f.text.size := by
  unfold insL
  rw [usedN_append, usedN_append]
  have h1 : usedN [f] = f.text.size := by simp [usedN]
  have h2 := usedN_take_drop l (inK l f.name)
  have h3 : usedN (l.drop (inK l f.name + (if isAt l (inK l f.name) f.name = true then 1 else 0))) ≤ usedN (l.drop (inK l f.name)) := by
    rw [← List.drop_drop]; exact usedN_sub (List.drop_sublist _ _)
  omega
theorem cutL_used {l : List DStored} {p : Nat} (h : p < l.length) : usedN (cutL l p) + l[p].text.size = usedN l := by
  unfold cutL
  rw [usedN_append]
  have h1 := usedN_take_drop l p
  have h2 : usedN (l.drop p) = l[p].text.size + usedN (l.drop (p + 1)) := by
    unfold usedN
    rw [List.drop_eq_getElem_cons h, List.map_cons, List.sum_cons]
  omega
theorem cutL_len {l : List DStored} {p : Nat} (h : p < l.length) : (cutL l p).length + 1 = l.length := by
  simp [cutL]; omega
/-- What an op leaves of a right drive is right. -/
theorem doF_right {x : DDrive} (hd : driveOk x = true) {o : DOp} (ho : opOk o = true) (hc : (doF x o).code = 0) : driveOk (doF x o).drive = true := by
  obtain ⟨q1, q2, q3, q4, q5, q6⟩ := (driveOk_iff x).1 hd
  have hno : ∀ {c : Int}, (⟨noDrive, c⟩ : DDriveOut).code = 0 → ¬ c = 0 → driveOk (⟨noDrive, c⟩ : DDriveOut).drive = true := fun h h' => absurd h h'
  have hopn : nameOk o.name 80 = true := by unfold opOk at ho; simp only [Bool.and_eq_true] at ho; exact ho.1
  unfold doF at hc ⊢
  split at hc
  · rename_i hk
    rw [if_pos hk]
    split at hc
    · cases hc
    · rename_i hh
      rw [if_neg hh]
      split at hc
      · cases hc
      · rename_i hl
        rw [if_neg hl]
        have ht : o.text.size ≤ 20000 := by
          rw [op1 hopn hk] at ho
          simp only [Bool.and_eq_true, decide_eq_true_eq] at ho
          exact ho.2
        refine (driveOk_iff _).2 ⟨?_, q2, q3, fun f hf => ?_, insL_sorted q5 _, ?_⟩
        · have := insL_len x.files ⟨o.name, o.text, 0⟩
          show (insL x.files ⟨o.name, o.text, 0⟩).length ≤ 60
          omega
        · rcases insL_mem hf with rfl | h
          · exact ⟨hopn, ht, Int.le_refl 0, by simp⟩
          · exact q4 f h
        · have := insL_used x.files ⟨o.name, o.text, 0⟩
          show (usedN (insL x.files ⟨o.name, o.text, 0⟩) : Int) ≤ x.room
          simp only at this
          omega
  · rename_i hk
    rw [if_neg hk]
    split at hc
    · rename_i hh
      rw [if_pos hh]
      obtain ⟨hp, _, hname⟩ := findI_eq hd hh
      rw [List.getElem?_eq_getElem hp] at hc ⊢
      simp only at hc ⊢
      have hfo := q4 _ (List.getElem_mem hp)
      split at hc
      · rename_i hk2
        rw [if_pos hk2]
        refine (driveOk_iff _).2 ⟨by simpa using q1, q2, q3, fun f hf => ?_, ?_, ?_⟩
        · rcases List.mem_or_eq_of_mem_set hf with h | rfl
          · exact q4 f h
          · exact ⟨hfo.1, hfo.2.1, by simp, by simp⟩
        · rw [List.pairwise_iff_getElem] at q5 ⊢
          intro i j hi hj hij
          simp only [List.length_set] at hi hj
          have := q5 i j hi hj hij
          simp only [List.getElem_set]
          split <;> rename_i e1
          · subst e1
            split <;> rename_i e2
            · omega
            · exact this
          · split <;> rename_i e2
            · subst e2; exact this
            · exact this
        · have : usedN (x.files.set (findP x.files o.name) ⟨x.files[findP x.files o.name].name, x.files[findP x.files o.name].text, (x.files[findP x.files o.name].text.size : Nat)⟩) = usedN x.files := by
            unfold usedN
            rw [List.map_set]
            congr 1
            apply List.ext_getElem?
            intro i
            rw [List.getElem?_set]
            split <;> rename_i e1
            · subst e1; simp [hp]
            · rfl
          show (usedN (x.files.set _ _) : Int) ≤ x.room
          rw [this]; exact q6
      · rename_i hk2
        rw [if_neg hk2]
        split at hc
        · rename_i hk3
          rw [if_pos hk3]
          split at hc
          · rename_i he
            rw [if_pos he]; exact hd
          · rename_i he
            rw [if_neg he]
            have hto : nameOk o.to 80 = true := by
              rw [op3 hopn hk3] at ho
              simp only [Bool.and_eq_true] at ho
              exact ho.1
            have h1 := cutL_len hp
            have h2 := cutL_used hp
            refine (driveOk_iff _).2 ⟨?_, q2, q3, fun f hf => ?_, insL_sorted (q5.sublist (cutL_sub _ _)) _, ?_⟩
            · have := insL_len (cutL x.files (findP x.files o.name)) ⟨o.to, x.files[findP x.files o.name].text, x.files[findP x.files o.name].synced⟩
              show (insL _ _).length ≤ 60
              omega
            · rcases insL_mem hf with rfl | h
              · exact ⟨hto, hfo.2⟩
              · exact q4 f ((cutL_sub _ _).subset h)
            · have := insL_used (cutL x.files (findP x.files o.name)) ⟨o.to, x.files[findP x.files o.name].text, x.files[findP x.files o.name].synced⟩
              show (usedN (insL _ _) : Int) ≤ x.room
              simp only at this
              omega
        · rename_i hk3
          rw [if_neg hk3]
          exact driveOk_sub hd (cutL_sub _ _)
    · cases hc
end Go.Proofs.Ytlijeincckbdaaa
namespace Go.Proofs.Ytlijeincckbdaaa
open Go.RowKit
set_option linter.unusedSimpArgs false
set_option linter.unusedVariables false
def setD (x : DArray) (i : Nat) (d : DDrive) : DArray := ⟨x.k, x.m, x.drives.set i d⟩
def stepsF (n : Int) : List DStep → DArray → Int → DArrayOut
  | [], x, k => ⟨x, k, 0⟩
  | s :: l, x, k => if n ≤ k then ⟨x, k, 0⟩ else match x.drives[s.drive.toNat]? with
    | none => ⟨x, k, 0⟩
    | some d => if (driveDoF d s.op).code = 0 then stepsF n l (setD x s.drive.toNat (driveDoF d s.op).drive) (k + 1) else ⟨x, k, (driveDoF d s.op).code⟩
def inR (m : Nat) (s : DStep) : Bool := decide (0 ≤ s.drive) && decide (s.drive < m)
def noArray : DArray := ⟨0, 0, []⟩
def stepsDoF (x : DArray) (l : List DStep) (n : Int) : DArrayOut :=
  if 400 < l.length then ⟨noArray, 0, 2⟩
  else if arrayOk x = true ∧ l.all (inR x.drives.length) = true then stepsF n l x 0 else ⟨noArray, 0, 1⟩
theorem setD_len (x : DArray) (i : Nat) (d : DDrive) : (setD x i d).drives.length = x.drives.length := by simp [setD]
theorem setD_right {x : DArray} (hx : arrayOk x = true) {i : Nat} {d : DDrive} (hd : driveOk d = true) : arrayOk (setD x i d) = true := by
  unfold arrayOk at hx ⊢
  simp only [Bool.and_eq_true, decide_eq_true_eq, List.all_eq_true] at hx ⊢
  refine ⟨⟨hx.1.1, by rw [setD_len]; exact hx.1.2⟩, fun y hy => ?_⟩
  rcases List.mem_or_eq_of_mem_set hy with h | rfl
  · exact hx.2 y h
  · exact hd
theorem setD_ok {x : DArray} (hx : x.ok) {i : Nat} {d : DDrive} (hd : d.ok) : (setD x i d).ok := by
  obtain ⟨h1, h2, h3, h4⟩ := hx
  refine ⟨h1, h2, by show (x.drives.set i d).length ≤ _; simpa using h3, fun y hy => ?_⟩
  rcases List.mem_or_eq_of_mem_set hy with h | rfl
  · exact h4 y h
  · exact hd
theorem driveDo_right {d : DDrive} (hd : driveOk d = true) {o : DOp} (hc : (driveDoF d o).code = 0) : opOk o = true ∧ driveDoF d o = doF d o ∧ driveOk (driveDoF d o).drive = true := by
  unfold driveDoF at hc ⊢
  split at hc
  · rename_i h
    rw [if_pos h]
    exact ⟨h.2, rfl, doF_right h.1 h.2 hc⟩
  · cases hc
theorem code_in {d : DDrive} {o : DOp} : 0 ≤ (driveDoF d o).code ∧ (driveDoF d o).code ≤ 11 := by
  unfold driveDoF doF
  repeat' split
  all_goals (constructor <;> simp)
theorem stepsF_ok {n : Int} : ∀ {l : List DStep} {x : DArray} {k : Int}, x.ok → arrayOk x = true → (∀ s ∈ l, s.ok) → 0 ≤ k → k + l.length ≤ 400 → (stepsF n l x k).ok ∧ arrayOk (stepsF n l x k).array = true
  | [], x, k, h1, h2, _, h3, h4 => ⟨⟨h1, by unfold inI; simp only [stepsF]; simp at h4; omega, in0⟩, h2⟩
  | s :: l, x, k, h1, h2, hl, h3, h4 => by
    simp only [List.length_cons] at h4
    have hk : inI k := by unfold inI; omega
    unfold stepsF
    split
    · exact ⟨⟨h1, hk, in0⟩, h2⟩
    · split
      · exact ⟨⟨h1, hk, in0⟩, h2⟩
      · rename_i d hd
        have hdm := List.mem_of_getElem? hd
        have hdr : driveOk d = true := by
          unfold arrayOk at h2
          simp only [Bool.and_eq_true, List.all_eq_true] at h2
          exact h2.2 d hdm
        split
        · rename_i hc
          obtain ⟨_, _, hr⟩ := driveDo_right hdr hc
          exact stepsF_ok (setD_ok h1 (driveDoF_ok d (h1.2.2.2 d hdm) s.op (hl s (by simp)).2).1.1) (setD_right h2 hr) (fun y hy => hl y (by simp [hy])) (by omega) (by omega)
        · have := code_in (d := d) (o := s.op)
          exact ⟨⟨h1, hk, by unfold inI; simp only; omega⟩, h2⟩
theorem noArray_ok : noArray.ok := ⟨in0, in0, by simp [noArray], fun y hy => by simp [noArray] at hy⟩
theorem stepsDoF_ok {x : DArray} (hx : x.ok) {l : List DStep} (hl : ∀ s ∈ l, s.ok) (n : Int) : (stepsDoF x l n).ok ∧ (∀ d ∈ (stepsDoF x l n).array.drives, d.files.length ≤ 60) ∧ (stepsDoF x l n).array.drives.length ≤ 14 := by
  have hno : ∀ c : Int, inI c → (⟨noArray, 0, c⟩ : DArrayOut).ok ∧ (∀ d ∈ (⟨noArray, 0, c⟩ : DArrayOut).array.drives, d.files.length ≤ 60) ∧ (⟨noArray, 0, c⟩ : DArrayOut).array.drives.length ≤ 14 := fun c hc =>
    ⟨⟨noArray_ok, in0, hc⟩, fun d hd => by simp [noArray] at hd, by simp [noArray]⟩
  unfold stepsDoF
  split
  · exact hno _ ⟨by decide, by decide⟩
  · split
    · rename_i h0 h
      obtain ⟨h1, h2⟩ := stepsF_ok (n := n) hx h.1 hl (Int.le_refl 0) (by omega)
      have h3 := arrayOk_len h2
      exact ⟨h1, fun d hd => driveOk_len (h3.2.1 d hd), h3.1⟩
    · exact hno _ ⟨by decide, by decide⟩
theorem stepsF_at {n : Int} {l : List DStep} {i : Nat} (h : i < l.length) {x : DArray} {k : Int} : stepsF n (l.drop i) x k = if n ≤ k then ⟨x, k, 0⟩ else match x.drives[l[i].drive.toNat]? with
    | none => ⟨x, k, 0⟩
    | some d => if (driveDoF d l[i].op).code = 0 then stepsF n (l.drop (i + 1)) (setD x l[i].drive.toNat (driveDoF d l[i].op).drive) (k + 1) else ⟨x, k, (driveDoF d l[i].op).code⟩ := by
  rw [List.drop_eq_getElem_cons h]; rfl
end Go.Proofs.Ytlijeincckbdaaa
