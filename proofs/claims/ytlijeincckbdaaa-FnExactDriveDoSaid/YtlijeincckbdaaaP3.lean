/- What DriveDo leaves: the plain law. -/
import Derived.Test.YtlijeincckbdaaaS14
namespace Go.Proofs.Ytlijeincckbdaaa
open Go.RowKit
set_option linter.unusedSimpArgs false
set_option linter.unusedVariables false
theorem inK_spec (l : List DStored) (name : ByteArray) : (∀ t (h : t < l.length), t < inK l name → bLt l[t].name name = true) ∧ ∀ h : inK l name < l.length, bLt l[inK l name].name name = false := by
  refine ⟨fun t h ht => ?_, fun h => ?_⟩
  · have := List.not_of_lt_findIdx (p := fun y : DStored => !bLt y.name name) ht
    simpa using this
  · have := List.findIdx_getElem (p := fun y : DStored => !bLt y.name name) (w := h)
    simp only [Bool.not_eq_true'] at this
    exact this
theorem inK_above {d : DDrive} (hd : driveOk d = true) (name : ByteArray) : ∀ t (h : t < d.files.length), inK d.files name ≤ t → bLt d.files[t].name name = false := by
  intro t h ht
  obtain ⟨_, h2⟩ := inK_spec d.files name
  have h2 := h2 (by omega)
  rcases Nat.eq_or_lt_of_le ht with e | e
  · rw [Bool.eq_false_iff] at h2 ⊢
    intro h3
    exact h2 (by simpa only [e] using h3)
  · have h4 := sorted_of hd t _ e h
    rw [Bool.eq_false_iff] at h2 ⊢
    exact fun h5 => h2 (bLt_trans h4 h5)
theorem cmp_lt {a b : ByteArray} (h : bLt a b = true) : cmpB a b < 0 := (cmpB_neg a b).2 h
theorem cmp_ge {a b : ByteArray} (h : bLt a b = false) : 0 ≤ cmpB a b := by
  rcases Int.lt_or_le (cmpB a b) 0 with e | e
  · rw [(cmpB_neg a b).1 e] at h; cases h
  · exact e
theorem inK_findP {d : DDrive} (hd : driveOk d = true) (name : ByteArray) : inK d.files name = findP d.files name :=
  (findP_cut (inK_le _ _) (fun t h ht => cmp_lt ((inK_spec d.files name).1 t h ht)) (fun t h ht => cmp_ge (inK_above hd name t h ht))).symm
theorem isAt_hasN {d : DDrive} (hd : driveOk d = true) (name : ByteArray) : isAt d.files (findP d.files name) name = hasN d.files name := by
  rw [← inK_findP hd]
  unfold isAt
  rcases Nat.lt_or_ge (inK d.files name) d.files.length with e | e
  · rw [List.getElem?_eq_getElem e, hasN_cut hd e (fun t h ht => cmp_lt ((inK_spec d.files name).1 t h ht)) (fun t h ht => cmp_ge (inK_above hd name t h ht))]
    simp only
    rw [decide_eq_decide]
    exact (cmpB_zero _ _).symm
  · rw [List.getElem?_eq_none e]
    exact (hasN_none fun t h => cmp_lt ((inK_spec d.files name).1 t h (by omega))).symm
/-- The list without its element p. -/
def cutL (l : List DStored) (p : Nat) : List DStored := l.take p ++ l.drop (p + 1)
theorem cutL_sub (l : List DStored) (p : Nat) : (cutL l p).Sublist l := by
  unfold cutL
  rw [← List.eraseIdx_eq_take_drop_succ]
  exact List.eraseIdx_sublist _ _
def fileOk (f : DStored) : Prop := nameOk f.name 80 = true ∧ f.text.size ≤ 20000 ∧ 0 ≤ f.synced ∧ f.synced ≤ f.text.size
theorem driveOk_iff (d : DDrive) : driveOk d = true ↔ d.files.length ≤ 60 ∧ 0 ≤ d.room ∧ d.room ≤ 100000 ∧ (∀ f ∈ d.files, fileOk f) ∧ d.files.Pairwise (fun a b => bLt a.name b.name = true) ∧ (usedN d.files : Int) ≤ d.room := by
  constructor
  · intro h
    have h' := h
    unfold driveOk at h'
    simp only [Bool.and_eq_true, decide_eq_true_eq] at h'
    refine ⟨h'.1.1.1.1, h'.1.1.1.2, h'.1.1.2, fun f hf => ?_, ?_, h'.2⟩
    · obtain ⟨k, hk, rfl⟩ := List.mem_iff_getElem.1 hf
      exact fOk_of h hk
    · rw [List.pairwise_iff_getElem]
      exact fun i j hi hj hij => sorted_of h j i hij hj
  · rintro ⟨h1, h2, h3, h4, h5, h6⟩
    unfold driveOk filesOk
    simp only [Bool.and_eq_true, decide_eq_true_eq]
    refine ⟨⟨⟨⟨h1, h2⟩, h3⟩, range_all_true fun i hi => ?_⟩, h6⟩
    rw [fOk_eq hi]
    obtain ⟨g1, g2, g3, g4⟩ := h4 _ (List.getElem_mem hi)
    simp only [Bool.and_eq_true, Bool.or_eq_true, decide_eq_true_eq]
    refine ⟨⟨⟨⟨g1, ?_⟩, g2⟩, g3⟩, g4⟩
    rcases Nat.eq_zero_or_pos i with e | e
    · exact .inl e
    · exact .inr (List.pairwise_iff_getElem.1 h5 (i - 1) i (by omega) hi (by omega))
theorem usedN_sub {l m : List DStored} (h : l.Sublist m) : usedN l ≤ usedN m := by
  unfold usedN
  induction h with
  | slnil => exact Nat.le_refl _
  | cons a h ih => simp only [List.map_cons, List.sum_cons]; omega
  | cons_cons a h ih => simp only [List.map_cons, List.sum_cons]; omega
theorem driveOk_sub {d : DDrive} (hd : driveOk d = true) {l : List DStored} (h : l.Sublist d.files) : driveOk ⟨l, d.room⟩ = true := by
  obtain ⟨h1, h2, h3, h4, h5, h6⟩ := (driveOk_iff d).1 hd
  have := usedN_sub h
  exact (driveOk_iff _).2 ⟨Nat.le_trans h.length_le h1, h2, h3, fun f hf => h4 f (h.subset hf), h5.sublist h, by show (usedN l : Int) ≤ d.room; omega⟩
def noDrive : DDrive := ⟨[], 0⟩
/-- What an op does to a right drive. -/
def doF (x : DDrive) (o : DOp) : DDriveOut :=
  if o.kind = 1 then
    if hasN x.files o.name = true then ⟨noDrive, 7⟩
    else if x.files.length = 60 ∨ x.room < (usedN x.files : Int) + o.text.size then ⟨noDrive, 11⟩
    else ⟨⟨insL x.files ⟨o.name, o.text, 0⟩, x.room⟩, 0⟩
  else if hasN x.files o.name = true then match x.files[findP x.files o.name]? with
    | none => ⟨noDrive, 8⟩
    | some f =>
      if o.kind = 2 then ⟨⟨x.files.set (findP x.files o.name) ⟨f.name, f.text, (f.text.size : Nat)⟩, x.room⟩, 0⟩
      else if o.kind = 3 then
        if o.to = o.name then ⟨x, 0⟩
        else ⟨⟨insL (cutL x.files (findP x.files o.name)) ⟨o.to, f.text, f.synced⟩, x.room⟩, 0⟩
      else ⟨⟨cutL x.files (findP x.files o.name), x.room⟩, 0⟩
  else ⟨noDrive, 8⟩
def driveDoF (x : DDrive) (o : DOp) : DDriveOut := if driveOk x = true ∧ opOk o = true then doF x o else ⟨noDrive, 1⟩
end Go.Proofs.Ytlijeincckbdaaa
