/- Drives that are drawn. -/
import Derived.Test.YtlijeincckbdaaaQp
import Derived.Test.YtlijeincckbdaaaQl
import Derived.Test.YtlijeincckbdaaaQd
namespace Go.Proofs.Ytlijeincckbdaaa
open Go.RowKit
set_option linter.unusedSimpArgs false
set_option linter.unusedVariables false
def runF (l : List UInt8) : Nat → Src → DDrive → Src × DDrive
  | 0, S, d => (S, d)
  | k + 1, S, d => runF l k (opF l S).1 (if (driveDoF d (opF l S).2).code = 0 then (driveDoF d (opF l S).2).drive else d)
theorem runF_ok {l : List UInt8} : ∀ (k : Nat) {S : Src} {d : DDrive}, S.ok l → driveOk d = true → d.ok → (runF l k S d).1.ok l ∧ (runF l k S d).1.size = S.size ∧ driveOk (runF l k S d).2 = true ∧ (runF l k S d).2.ok
  | 0, S, d, h1, h2, h3 => ⟨h1, rfl, h2, h3⟩
  | k + 1, S, d, h1, h2, h3 => by
    have ho := opF_ok h1
    have hd : driveOk (if (driveDoF d (opF l S).2).code = 0 then (driveDoF d (opF l S).2).drive else d) = true ∧ (if (driveDoF d (opF l S).2).code = 0 then (driveDoF d (opF l S).2).drive else d).ok := by
      split
      · rename_i hc
        exact ⟨(driveDo_right h2 hc).2.2, (driveDoF_ok d h3 _ ho.2.2.1).1.1⟩
      · exact ⟨h2, h3⟩
    have := runF_ok k ho.1 hd.1 hd.2
    exact ⟨this.1, this.2.1.trans ho.2.1, this.2.2⟩
def fillN (i : Nat) : ByteArray := ⟨#[122]⟩ ++ ⟨[UInt8.ofNat (97 + i / 10), UInt8.ofNat (48 + i % 10)].toArray⟩
def fillF (l : List UInt8) : Nat → Src → List DStored → Nat → Src × List DStored
  | 0, S, fs, i => (S, fs)
  | m + 1, S, fs, i => if (fs.length : Int) < 59 + (nF l S 3).2 then fillF l m (nF l S 3).1 (fs ++ [⟨fillN i, ⟨#[]⟩, 0⟩]) (i + 1) else ((nF l S 3).1, fs)
def fOkS (f : DStored) : Prop := f.ok ∧ f.text.size ≤ 20000
theorem fillN_size (i : Nat) : (fillN i).size = 3 := by
  show ((⟨#[122]⟩ : ByteArray) ++ ⟨[UInt8.ofNat (97 + i / 10), UInt8.ofNat (48 + i % 10)].toArray⟩).size = 3
  rw [ByteArray.size_append]; rfl
theorem fillF_ok {l : List UInt8} : ∀ (m : Nat) {S : Src} {fs : List DStored} {i : Nat}, S.ok l → (∀ f ∈ fs, fOkS f) → fs.length ≤ 61 → (fillF l m S fs i).1.ok l ∧ (fillF l m S fs i).1.size = S.size ∧ (∀ f ∈ (fillF l m S fs i).2, fOkS f) ∧ (fillF l m S fs i).2.length ≤ 61
  | 0, S, fs, i, h1, h2, h3 => ⟨h1, rfl, h2, h3⟩
  | m + 1, S, fs, i, h1, h2, h3 => by
    have hn := nF_ok h1 (inI_n (k := 3) (by omega))
    unfold fillF
    split
    · rename_i h
      have := fillF_ok m (fs := fs ++ [⟨fillN i, ⟨#[]⟩, 0⟩]) (i := i + 1) hn.1 (fun f hf => by
        rw [List.mem_append, List.mem_singleton] at hf
        rcases hf with hf | rfl
        · exact h2 f hf
        · exact ⟨⟨by show (fillN i).size ≤ _; rw [fillN_size]; decide, Nat.zero_le _, in0⟩, Nat.zero_le _⟩) (by simp; omega)
      exact ⟨this.1, this.2.1.trans hn.2.1, this.2.2⟩
    · exact ⟨hn.1, hn.2.1, h2, h3⟩
def rooms : List Int := [-1, 0, 100000, 100001]
/-- The end of a drive that is drawn. -/
def spoilF (l : List UInt8) (S : Src) (d : DDrive) : Src × DDrive :=
  if (oneF l S 15).2 = true then
    if (nF l (oneF l S 15).1 5).2 = 0 then ((nF l (nF l (oneF l S 15).1 5).1 4).1, ⟨d.files, rooms.getD (nF l (nF l (oneF l S 15).1 5).1 4).2.toNat 0⟩)
    else if (nF l (oneF l S 15).1 5).2 = 1 then ((nF l (oneF l S 15).1 5).1, ⟨d.files ++ [⟨⟨#[97]⟩, ⟨#[]⟩, 0⟩], d.room⟩)
    else if (nF l (oneF l S 15).1 5).2 = 2 then
      match d.files[0]? with
      | some f => ((nF l (nF l (oneF l S 15).1 5).1 15).1, ⟨d.files.set 0 ⟨f.name, f.text, (nF l (nF l (oneF l S 15).1 5).1 15).2 - 1⟩, d.room⟩)
      | none => ((nF l (oneF l S 15).1 5).1, d)
    else if (nF l (oneF l S 15).1 5).2 = 3 then ((fillF l 62 (nF l (oneF l S 15).1 5).1 d.files 0).1, ⟨(fillF l 62 (nF l (oneF l S 15).1 5).1 d.files 0).2, 100000⟩)
    else ((bytesF l 60 (nF l (oneF l S 15).1 5).1 []).1, ⟨d.files ++ [⟨⟨#[122, 122]⟩, ⟨(bytesF l 60 (nF l (oneF l S 15).1 5).1 []).2.toArray⟩, 0⟩], d.room⟩)
  else ((oneF l S 15).1, d)
def drawD (l : List UInt8) (S : Src) : Src × DDrive :=
  spoilF l (runF l (nF l (nF l S 60).1 9).2.toNat (nF l (nF l S 60).1 9).1 ⟨[], 20 + (nF l S 60).2⟩).1 (runF l (nF l (nF l S 60).1 9).2.toNat (nF l (nF l S 60).1 9).1 ⟨[], 20 + (nF l S 60).2⟩).2
def smallD (d : DDrive) : Prop := d.ok ∧ d.files.length ≤ 62 ∧ ∀ f ∈ d.files, f.text.size ≤ 20000
theorem empty_right {r : Int} (h : 0 ≤ r ∧ r ≤ 100000) : driveOk ⟨[], r⟩ = true ∧ (⟨[], r⟩ : DDrive).ok :=
  ⟨(driveOk_iff _).2 ⟨Nat.zero_le _, h.1, h.2, fun f hf => (by cases hf), List.Pairwise.nil, by show ((usedN [] : Nat) : Int) ≤ r; simp [usedN]; omega⟩, ⟨Nat.zero_le _, fun f hf => (by cases hf)⟩, by unfold inI; simp only; omega⟩
theorem spoilF_ok {l : List UInt8} {S : Src} (hS : S.ok l) {d : DDrive} (h1 : driveOk d = true) (h2 : d.ok) : (spoilF l S d).1.ok l ∧ (spoilF l S d).1.size = S.size ∧ smallD (spoilF l S d).2 := by
  obtain ⟨q1, q2, q3, q4, q5, q6⟩ := (driveOk_iff d).1 h1
  obtain ⟨⟨hl, hf⟩, hr⟩ := h2
  have k1 := nF_ok hS (inI_n (k := 15) (by omega))
  have k2 := nF_ok (S := (oneF l S 15).1) k1.1 (inI_n (k := 5) (by omega))
  have hsm : ∀ (fs : List DStored) (r : Int), inI r → fs.length ≤ 62 → (∀ f ∈ fs, fOkS f) → smallD ⟨fs, r⟩ := fun fs r hr hl hf => ⟨⟨⟨by show fs.length ≤ _; omega, fun f h => (hf f h).1⟩, hr⟩, hl, fun f h => (hf f h).2⟩
  have hfs : ∀ f ∈ d.files, fOkS f := fun f h => ⟨hf f h, (q4 f h).2.1⟩
  have hap : ∀ g : DStored, fOkS g → ∀ f ∈ d.files ++ [g], fOkS f := fun g hg f h => by
    rw [List.mem_append, List.mem_singleton] at h
    rcases h with h | rfl
    · exact hfs f h
    · exact hg
  unfold spoilF
  split
  · split
    · have k3 := nF_ok k2.1 (inI_n (k := 4) (by omega))
      refine ⟨k3.1, k3.2.1.trans (k2.2.1.trans k1.2.1), hsm _ _ ?_ (by omega) hfs⟩
      have : ∀ x ∈ rooms, inI x := by unfold inI; decide
      have hlt : (nF l (nF l (oneF l S 15).1 5).1 4).2.toNat < rooms.length := by show _ < 4; omega
      rw [getD_at hlt]
      exact this _ (List.getElem_mem hlt)
    · split
      · exact ⟨k2.1, k2.2.1.trans k1.2.1, hsm _ _ hr (by simp; omega) (hap _ ⟨⟨by show 1 ≤ _; decide, Nat.zero_le _, in0⟩, Nat.zero_le _⟩)⟩
      · split
        · split
          · rename_i f hg
            have k3 := nF_ok k2.1 (inI_n (k := 15) (by omega))
            have hgf := hfs f (List.mem_of_getElem? hg)
            refine ⟨k3.1, k3.2.1.trans (k2.2.1.trans k1.2.1), hsm _ _ hr (by simp; omega) fun g hg => ?_⟩
            rcases List.mem_or_eq_of_mem_set hg with h | rfl
            · exact hfs g h
            · exact ⟨⟨hgf.1.1, hgf.1.2.1, by unfold inI; simp only; omega⟩, hgf.2⟩
          · exact ⟨k2.1, k2.2.1.trans k1.2.1, ⟨⟨hl, hf⟩, hr⟩, Nat.le_trans q1 (by decide), fun f h => (hfs f h).2⟩
        · split
          · have := fillF_ok (l := l) 62 (S := (nF l (oneF l S 15).1 5).1) (fs := d.files) (i := 0) k2.1 hfs (by omega)
            generalize fillF l 62 (nF l (oneF l S 15).1 5).1 d.files 0 = p at this ⊢
            exact ⟨this.1, this.2.1.trans (k2.2.1.trans k1.2.1), hsm _ _ ⟨by decide, by decide⟩ (by have := this.2.2.2; omega) this.2.2.1⟩
          · have hby := bytesF_ok (l := l) 60 (S := (nF l (oneF l S 15).1 5).1) (acc := []) k2.1
            generalize bytesF l 60 (nF l (oneF l S 15).1 5).1 [] = p at hby ⊢
            have hsz : (⟨p.2.toArray⟩ : ByteArray).size = 60 := by
              show p.2.toArray.size = 60; rw [List.size_toArray, hby.2.2]; rfl
            exact ⟨hby.1, hby.2.1.trans (k2.2.1.trans k1.2.1), hsm _ _ hr (by simp; omega) (hap _ ⟨⟨by show 2 ≤ _; decide, by rw [hsz]; decide, in0⟩, by rw [hsz]; decide⟩)⟩
  · exact ⟨k1.1, k1.2.1, ⟨⟨hl, hf⟩, hr⟩, Nat.le_trans q1 (by decide), fun f h => (hfs f h).2⟩
theorem drawD_ok {l : List UInt8} {S : Src} (hS : S.ok l) : (drawD l S).1.ok l ∧ (drawD l S).1.size = S.size ∧ smallD (drawD l S).2 := by
  have k1 := nF_ok hS (inI_n (k := 60) (by omega))
  have k2 := nF_ok k1.1 (inI_n (k := 9) (by omega))
  have he := empty_right (r := 20 + (nF l S 60).2) (by omega)
  have hr := runF_ok (l := l) (nF l (nF l S 60).1 9).2.toNat k2.1 he.1 he.2
  have := spoilF_ok hr.1 hr.2.2.1 hr.2.2.2
  exact ⟨this.1, this.2.1.trans (hr.2.1.trans (k2.2.1.trans k1.2.1)), this.2.2⟩
theorem small_used {d : DDrive} (h : smallD d) : usedN d.files ≤ 1000000000000 := by
  have := sum_le_mul (l := d.files) (f := fun f : DStored => f.text.size) (B := 20000) h.2.2
  have h2 := h.2.1
  unfold usedN
  omega
end Go.Proofs.Ytlijeincckbdaaa
namespace Go.Proofs.Ytlijeincckbdaaa
open Go.RowKit
set_option linter.unusedSimpArgs false
set_option linter.unusedVariables false
set_option maxRecDepth 100000
set_option maxHeartbeats 4000000
theorem u8w {k : Nat} (h : k < 256) : ((k : Nat) : Int) = IntKind.u8.wrap (k : Nat) := by simp [IntKind.wrap, IntKind.signed, IntKind.bits]; omega
theorem u8pair {a b : Nat} (ha : a < 256) (hb : b < 256) : [[AV.lit (.int .u8 (a : Nat))], [AV.lit (.int .u8 (b : Nat))]] = [UInt8.ofNat a, UInt8.ofNat b].map byteE := by
  simp [byteE, UInt8.toNat_ofNat', Nat.mod_eq_of_lt ha, Nat.mod_eq_of_lt hb]
theorem drawD_c (B : Byt) (hB : B.l.length ≤ 4294967296) (S : Src) (hS : S.ok B.l) (res : Src × DDrive) (hres : drawD B.l S = res) :
    PtrF Try.prog 113 B.pars (S.cells B) (res.1.cells B) [] (.agg res.2.enc) := by
  obtain ⟨p1, e1⟩ : ∃ p, nF B.l S 60 = p := ⟨_, rfl⟩
  have c1 := n_c B hB S hS 60 (inI_n (by omega))
  have h1 := nF_ok hS (inI_n (k := 60) (by omega))
  rw [e1] at c1 h1
  obtain ⟨p2, e2⟩ : ∃ p, nF B.l p1.1 9 = p := ⟨_, rfl⟩
  have c2 := n_c B hB p1.1 h1.1 9 (inI_n (by omega))
  have h2 := nF_ok h1.1 (inI_n (k := 9) (by omega))
  rw [e2] at c2 h2
  obtain ⟨q0, hq0⟩ : ∃ q : Nat, p2.2 = (q : Int) := ⟨p2.2.toNat, by omega⟩
  obtain ⟨R, eR⟩ : ∃ R, runF B.l p2.2.toNat p2.1 ⟨[], 20 + p1.2⟩ = R := ⟨_, rfl⟩
  have he := empty_right (r := 20 + p1.2) (by omega)
  have hR := runF_ok (l := B.l) p2.2.toNat h2.1 he.1 he.2
  rw [eR] at hR
  have hE : spoilF B.l R.1 R.2 = res := by rw [← hres]; unfold drawD; rw [e1, e2, eR]
  rw [hq0, Int.toNat_natCast] at eR
  refine ptrf_of_vc (E := tbO113) (tbF_ok _) mix (fn := Try.f113) Try.func113 rfl (by kernel_rfl) (by kernel_rfl) (by simp [Try.f113]) (by exact DDrive.enc_nb _) rfl rfl (by show 1 ≤ 7; decide) rfl fun b => ?_
  (conv => whnf)
  refine ⟨_, _, ptr_ok 0 (c1) rfl rfl (by repeat' (first | exact lends_nil | exact lend_dead | apply lends_cons | apply lend_agg | apply lend_one | exact all2_nil | apply all2_cons | exact la_lit rfl | exact la_int (by first | rfl | omega) | exact la_row rfl rfl | exact la_loc rfl rfl rfl (by first | rfl | simp [mkL_length]) (by first | rfl | simp) | exact la_nil rfl | apply la_fn rfl | exact lend_same rfl rfl | exact lend_bor rfl rfl)) (fun p hp => ⟨1, by rw [List.mem_singleton.1 hp]; rfl⟩) (fun x hx => by cases hx), ?_⟩; (conv => whnf)
  refine ⟨20 + p1.2, by rw [← wrap64_id] <;> omega, ?_⟩; (conv => whnf)
  refine ⟨_, _, ptr_ok 0 (c2) rfl rfl (by repeat' (first | exact lends_nil | exact lend_dead | apply lends_cons | apply lend_agg | apply lend_one | exact all2_nil | apply all2_cons | exact la_lit rfl | exact la_int (by first | rfl | omega) | exact la_row rfl rfl | exact la_loc rfl rfl rfl (by first | rfl | simp [mkL_length]) (by first | rfl | simp) | exact la_nil rfl | apply la_fn rfl | exact lend_same rfl rfl | exact lend_bor rfl rfl)) (fun p hp => ⟨1, by rw [List.mem_singleton.1 hp]; rfl⟩) (fun x hx => by cases hx), ?_⟩; (conv => whnf)
  refine ⟨LG (fun p : Nat × Src × DDrive => p.1 ≤ 9 ∧ p.2.1.ok B.l ∧ driveOk p.2.2 = true ∧ p.2.2.ok ∧ runF B.l p.1 p.2.1 p.2.2 = R) (fun p => p.1)
      (fun p => AS.of [(0, .one (.ptr 0 0)), (2, .one (.ptr 32 0)), (3, .one (.ptr 48 0)), (4, .one (.lit (.int .i64 (p.1 : Nat))))]
        [(0, .var ((p.2.1.cells B).map .lit)), (1, .par (.slice B.A B.l.length B.cap) (.row true 1 (B.l.map byteE))), (8, .pin 0 (.var b)), (32, .var [.lit (.slice none 0 0), .lit (.int .i64 0)]), (48, .var [.loc 9 0 p.2.2.files.length, .lit (.int .i64 p.2.2.room)]), (9, .row true 3 (p.2.2.files.map DStored.enc))]),
    lg_init (q0, p2.1, ⟨[], 20 + p1.2⟩) ⟨by omega, h2.1, he.1, he.2, eR⟩ (weak_nilv 48 9 3 [] [.lit (.int .i64 (20 + p1.2))] rfl rfl (weak_of (all_cons rfl (all_cons rfl (all_cons rfl (all_cons (eq_int rfl hq0) all_nil)))) (by repeat (first | refine all_cons (by first | rfl | exact eq_int rfl (by first | rfl | omega | (simp; done) | (simp; omega)) | exact eq_loc rfl (by first | rfl | omega | (simp; done) | (simp; omega)) | exact eq_bool rfl (by simp_all)) ?_ | exact all_nil)) rfl rfl)), ?_⟩
  rintro σ m0 ⟨⟨k0, S1, d⟩, ⟨hk, hS1, hd, hdo, hF⟩, hm0, rfl⟩
  simp only at hk hS1 hd hdo hF hm0 ⊢
  refine ⟨_, Weak.refl _, ?_⟩
  (conv => whnf)
  (split <;> rename_i h <;> (try simp only [decide_eq_true_eq, decide_eq_false_iff_not, Bool.not_eq_true', Bool.not_eq_false', Bool.not_eq_true, Bool.not_eq_false, List.length_map] at h) <;> conv => whnf)
  · obtain ⟨k, rfl⟩ : ∃ k, k0 = k + 1 := ⟨k0 - 1, by omega⟩
    obtain ⟨o, e1⟩ : ∃ o, opF B.l S1 = o := ⟨_, rfl⟩
    have co := op_c B hB S1 hS1 o e1
    have ho := opF_ok hS1
    rw [e1] at ho
    have hro := driveDoF_ok d hdo o.2 ho.2.2.1
    have hrr : (driveDoF d o.2).code = 0 → _ := fun e => driveDo_right hd e
    have hus : usedN d.files ≤ 1000000000000 := by
      have := ((driveOk_iff _).1 hd).2.2
      omega
    have cd := driveDoSpec_c d hdo hus o.2 ho.2.2.1 _ rfl
    obtain ⟨r, hr⟩ : ∃ r, driveDoF d o.2 = r := ⟨_, rfl⟩
    rw [hr] at hro hrr cd
    have nx : ∀ t : T, True := fun _ => trivial
    refine ⟨?_, ?_, ?_, trivial⟩
    · (conv => whnf)
      refine ⟨?_, ?_, trivial⟩
      · (conv => whnf)
        refine ⟨_, _, ptr_ok 0 (co) rfl rfl (by repeat' (first | exact lends_nil | exact lend_dead | apply lends_cons | apply lend_agg | apply lend_one | exact all2_nil | apply all2_cons | exact la_lit rfl | exact la_int (by first | rfl | omega) | exact la_row rfl rfl | exact la_loc rfl rfl rfl (by first | rfl | simp [mkL_length]) (by first | rfl | simp) | exact la_nil rfl | apply la_fn rfl | exact lend_same rfl rfl | exact lend_bor rfl rfl)) (fun p hp => ⟨1, by rw [List.mem_singleton.1 hp]; rfl⟩) (fun x hx => by cases hx), ?_⟩; (conv => whnf)
        refine ⟨_, _, cd, (by repeat' (first | exact lends_nil | exact lend_dead | apply lends_cons | apply lend_agg | apply lend_one | exact all2_nil | apply all2_cons | exact la_lit rfl | exact la_int (by first | rfl | omega) | exact la_row rfl rfl | exact la_loc rfl rfl rfl (by first | rfl | simp [mkL_length]) (by first | rfl | simp) | exact la_nil rfl | apply la_fn rfl | exact lend_same rfl rfl | exact lend_bor rfl rfl)), ?_⟩; (conv => whnf)
        (split <;> rename_i hc <;> (try simp only [decide_eq_true_eq, decide_eq_false_iff_not, Bool.not_eq_true', Bool.not_eq_false', Bool.not_eq_true, Bool.not_eq_false, List.length_map] at hc) <;> conv => whnf)
        · refine ⟨(k : Int), by rw [← wrap64_id] <;> omega, ?_⟩; (conv => whnf)
          exact lg_back ((k, o.1, r.drive) : Nat × Src × DDrive) ⟨by omega, ho.1, (hrr hc).2.2, hro.1.1, by rw [← hF]; show _ = runF B.l k (opF B.l S1).1 _; rw [e1, hr, if_pos hc]⟩ (by (try dsimp only); omega)
            (weak_swap 9 320 (weak_of (by repeat (first | refine all_cons (by first | rfl | exact eq_int rfl (by first | rfl | omega | (simp; done) | (simp; omega)) | exact eq_loc rfl (by first | rfl | omega | (simp; done) | (simp; omega)) | exact eq_bool rfl (by simp_all)) ?_ | exact all_nil)) (all_cons rfl (all_cons rfl (all_cons rfl (all_cons rfl (all_cons (eq_var (xs := [.loc 9 0 (r.drive.files.map DStored.enc).length, .lit (.int .i64 r.drive.room)]) rfl (by simp)) (all_cons (eq_row rfl rfl) all_nil)))))) rfl rfl))
        · refine ⟨(k : Int), by rw [← wrap64_id] <;> omega, ?_⟩; (conv => whnf)
          exact lg_back ((k, o.1, d) : Nat × Src × DDrive) ⟨by omega, ho.1, hd, hdo, by rw [← hF]; show _ = runF B.l k (opF B.l S1).1 _; rw [e1, hr, if_neg hc]⟩ (by (try dsimp only); omega) (weak_of (by repeat (first | refine all_cons (by first | rfl | exact eq_int rfl (by first | rfl | omega | (simp; done) | (simp; omega)) | exact eq_loc rfl (by first | rfl | omega | (simp; done) | (simp; omega)) | exact eq_bool rfl (by simp_all)) ?_ | exact all_nil)) (by repeat (first | refine all_cons (by first | rfl | exact eq_int rfl (by first | rfl | omega | (simp; done) | (simp; omega)) | exact eq_loc rfl (by first | rfl | omega | (simp; done) | (simp; omega)) | exact eq_bool rfl (by simp_all)) ?_ | exact all_nil)) rfl rfl)
      · (conv => whnf)
        refine ⟨_, _, ptr_ok 0 (co) rfl rfl (by repeat' (first | exact lends_nil | exact lend_dead | apply lends_cons | apply lend_agg | apply lend_one | exact all2_nil | apply all2_cons | exact la_lit rfl | exact la_int (by first | rfl | omega) | exact la_row rfl rfl | exact la_loc rfl rfl rfl (by first | rfl | simp [mkL_length]) (by first | rfl | simp) | exact la_nil rfl | apply la_fn rfl | exact lend_same rfl rfl | exact lend_bor rfl rfl)) (fun p hp => ⟨1, by rw [List.mem_singleton.1 hp]; rfl⟩) (fun x hx => by cases hx), ?_⟩; (conv => whnf)
        refine ⟨_, _, cd, (by repeat' (first | exact lends_nil | exact lend_dead | apply lends_cons | apply lend_agg | apply lend_one | exact all2_nil | apply all2_cons | exact la_lit rfl | exact la_int (by first | rfl | omega) | exact la_row rfl rfl | exact la_loc rfl rfl rfl (by first | rfl | simp [mkL_length]) (by first | rfl | simp) | exact la_nil rfl | apply la_fn rfl | exact lend_same rfl rfl | exact lend_bor rfl rfl)), ?_⟩; (conv => whnf)
        (split <;> rename_i hc <;> (try simp only [decide_eq_true_eq, decide_eq_false_iff_not, Bool.not_eq_true', Bool.not_eq_false', Bool.not_eq_true, Bool.not_eq_false, List.length_map] at hc) <;> conv => whnf)
        · refine ⟨(k : Int), by rw [← wrap64_id] <;> omega, ?_⟩; (conv => whnf)
          exact lg_back ((k, o.1, r.drive) : Nat × Src × DDrive) ⟨by omega, ho.1, (hrr hc).2.2, hro.1.1, by rw [← hF]; show _ = runF B.l k (opF B.l S1).1 _; rw [e1, hr, if_pos hc]⟩ (by (try dsimp only); omega)
            (weak_swap 9 320 (weak_of (by repeat (first | refine all_cons (by first | rfl | exact eq_int rfl (by first | rfl | omega | (simp; done) | (simp; omega)) | exact eq_loc rfl (by first | rfl | omega | (simp; done) | (simp; omega)) | exact eq_bool rfl (by simp_all)) ?_ | exact all_nil)) (all_cons rfl (all_cons rfl (all_cons rfl (all_cons rfl (all_cons (eq_var (xs := [.loc 9 0 (r.drive.files.map DStored.enc).length, .lit (.int .i64 r.drive.room)]) rfl (by simp)) (all_cons (eq_row rfl rfl) all_nil)))))) rfl rfl))
        · refine ⟨(k : Int), by rw [← wrap64_id] <;> omega, ?_⟩; (conv => whnf)
          exact lg_back ((k, o.1, d) : Nat × Src × DDrive) ⟨by omega, ho.1, hd, hdo, by rw [← hF]; show _ = runF B.l k (opF B.l S1).1 _; rw [e1, hr, if_neg hc]⟩ (by (try dsimp only); omega) (weak_of (by repeat (first | refine all_cons (by first | rfl | exact eq_int rfl (by first | rfl | omega | (simp; done) | (simp; omega)) | exact eq_loc rfl (by first | rfl | omega | (simp; done) | (simp; omega)) | exact eq_bool rfl (by simp_all)) ?_ | exact all_nil)) (by repeat (first | refine all_cons (by first | rfl | exact eq_int rfl (by first | rfl | omega | (simp; done) | (simp; omega)) | exact eq_loc rfl (by first | rfl | omega | (simp; done) | (simp; omega)) | exact eq_bool rfl (by simp_all)) ?_ | exact all_nil)) rfl rfl)
    · (conv => whnf)
      refine ⟨_, _, ptr_ok 0 (co) rfl rfl (by repeat' (first | exact lends_nil | exact lend_dead | apply lends_cons | apply lend_agg | apply lend_one | exact all2_nil | apply all2_cons | exact la_lit rfl | exact la_int (by first | rfl | omega) | exact la_row rfl rfl | exact la_loc rfl rfl rfl (by first | rfl | simp [mkL_length]) (by first | rfl | simp) | exact la_nil rfl | apply la_fn rfl | exact lend_same rfl rfl | exact lend_bor rfl rfl)) (fun p hp => ⟨1, by rw [List.mem_singleton.1 hp]; rfl⟩) (fun x hx => by cases hx), ?_⟩; (conv => whnf)
      refine ⟨_, _, cd, (by repeat' (first | exact lends_nil | exact lend_dead | apply lends_cons | apply lend_agg | apply lend_one | exact all2_nil | apply all2_cons | exact la_lit rfl | exact la_int (by first | rfl | omega) | exact la_row rfl rfl | exact la_loc rfl rfl rfl (by first | rfl | simp [mkL_length]) (by first | rfl | simp) | exact la_nil rfl | apply la_fn rfl | exact lend_same rfl rfl | exact lend_bor rfl rfl)), ?_⟩; (conv => whnf)
      (split <;> rename_i hc <;> (try simp only [decide_eq_true_eq, decide_eq_false_iff_not, Bool.not_eq_true', Bool.not_eq_false', Bool.not_eq_true, Bool.not_eq_false, List.length_map] at hc) <;> conv => whnf)
      · refine ⟨(k : Int), by rw [← wrap64_id] <;> omega, ?_⟩; (conv => whnf)
        exact lg_back ((k, o.1, r.drive) : Nat × Src × DDrive) ⟨by omega, ho.1, (hrr hc).2.2, hro.1.1, by rw [← hF]; show _ = runF B.l k (opF B.l S1).1 _; rw [e1, hr, if_pos hc]⟩ (by (try dsimp only); omega)
          (weak_swap 9 320 (weak_of (by repeat (first | refine all_cons (by first | rfl | exact eq_int rfl (by first | rfl | omega | (simp; done) | (simp; omega)) | exact eq_loc rfl (by first | rfl | omega | (simp; done) | (simp; omega)) | exact eq_bool rfl (by simp_all)) ?_ | exact all_nil)) (all_cons rfl (all_cons rfl (all_cons rfl (all_cons rfl (all_cons (eq_var (xs := [.loc 9 0 (r.drive.files.map DStored.enc).length, .lit (.int .i64 r.drive.room)]) rfl (by simp)) (all_cons (eq_row rfl rfl) all_nil)))))) rfl rfl))
      · refine ⟨(k : Int), by rw [← wrap64_id] <;> omega, ?_⟩; (conv => whnf)
        exact lg_back ((k, o.1, d) : Nat × Src × DDrive) ⟨by omega, ho.1, hd, hdo, by rw [← hF]; show _ = runF B.l k (opF B.l S1).1 _; rw [e1, hr, if_neg hc]⟩ (by (try dsimp only); omega) (weak_of (by repeat (first | refine all_cons (by first | rfl | exact eq_int rfl (by first | rfl | omega | (simp; done) | (simp; omega)) | exact eq_loc rfl (by first | rfl | omega | (simp; done) | (simp; omega)) | exact eq_bool rfl (by simp_all)) ?_ | exact all_nil)) (by repeat (first | refine all_cons (by first | rfl | exact eq_int rfl (by first | rfl | omega | (simp; done) | (simp; omega)) | exact eq_loc rfl (by first | rfl | omega | (simp; done) | (simp; omega)) | exact eq_bool rfl (by simp_all)) ?_ | exact all_nil)) rfl rfl)
    · (conv => whnf)
      refine ⟨?_, ?_, trivial⟩
      · (conv => whnf)
        refine ⟨_, _, ptr_ok 0 (co) rfl rfl (by repeat' (first | exact lends_nil | exact lend_dead | apply lends_cons | apply lend_agg | apply lend_one | exact all2_nil | apply all2_cons | exact la_lit rfl | exact la_int (by first | rfl | omega) | exact la_row rfl rfl | exact la_loc rfl rfl rfl (by first | rfl | simp [mkL_length]) (by first | rfl | simp) | exact la_nil rfl | apply la_fn rfl | exact lend_same rfl rfl | exact lend_bor rfl rfl)) (fun p hp => ⟨1, by rw [List.mem_singleton.1 hp]; rfl⟩) (fun x hx => by cases hx), ?_⟩; (conv => whnf)
        refine ⟨_, _, cd, (by repeat' (first | exact lends_nil | exact lend_dead | apply lends_cons | apply lend_agg | apply lend_one | exact all2_nil | apply all2_cons | exact la_lit rfl | exact la_int (by first | rfl | omega) | exact la_row rfl rfl | exact la_loc rfl rfl rfl (by first | rfl | simp [mkL_length]) (by first | rfl | simp) | exact la_nil rfl | apply la_fn rfl | exact lend_same rfl rfl | exact lend_bor rfl rfl)), ?_⟩; (conv => whnf)
        (split <;> rename_i hc <;> (try simp only [decide_eq_true_eq, decide_eq_false_iff_not, Bool.not_eq_true', Bool.not_eq_false', Bool.not_eq_true, Bool.not_eq_false, List.length_map] at hc) <;> conv => whnf)
        · refine ⟨(k : Int), by rw [← wrap64_id] <;> omega, ?_⟩; (conv => whnf)
          exact lg_back ((k, o.1, r.drive) : Nat × Src × DDrive) ⟨by omega, ho.1, (hrr hc).2.2, hro.1.1, by rw [← hF]; show _ = runF B.l k (opF B.l S1).1 _; rw [e1, hr, if_pos hc]⟩ (by (try dsimp only); omega)
            (weak_swap 9 320 (weak_of (by repeat (first | refine all_cons (by first | rfl | exact eq_int rfl (by first | rfl | omega | (simp; done) | (simp; omega)) | exact eq_loc rfl (by first | rfl | omega | (simp; done) | (simp; omega)) | exact eq_bool rfl (by simp_all)) ?_ | exact all_nil)) (all_cons rfl (all_cons rfl (all_cons rfl (all_cons rfl (all_cons (eq_var (xs := [.loc 9 0 (r.drive.files.map DStored.enc).length, .lit (.int .i64 r.drive.room)]) rfl (by simp)) (all_cons (eq_row rfl rfl) all_nil)))))) rfl rfl))
        · refine ⟨(k : Int), by rw [← wrap64_id] <;> omega, ?_⟩; (conv => whnf)
          exact lg_back ((k, o.1, d) : Nat × Src × DDrive) ⟨by omega, ho.1, hd, hdo, by rw [← hF]; show _ = runF B.l k (opF B.l S1).1 _; rw [e1, hr, if_neg hc]⟩ (by (try dsimp only); omega) (weak_of (by repeat (first | refine all_cons (by first | rfl | exact eq_int rfl (by first | rfl | omega | (simp; done) | (simp; omega)) | exact eq_loc rfl (by first | rfl | omega | (simp; done) | (simp; omega)) | exact eq_bool rfl (by simp_all)) ?_ | exact all_nil)) (by repeat (first | refine all_cons (by first | rfl | exact eq_int rfl (by first | rfl | omega | (simp; done) | (simp; omega)) | exact eq_loc rfl (by first | rfl | omega | (simp; done) | (simp; omega)) | exact eq_bool rfl (by simp_all)) ?_ | exact all_nil)) rfl rfl)
      · (conv => whnf)
        refine ⟨_, _, ptr_ok 0 (co) rfl rfl (by repeat' (first | exact lends_nil | exact lend_dead | apply lends_cons | apply lend_agg | apply lend_one | exact all2_nil | apply all2_cons | exact la_lit rfl | exact la_int (by first | rfl | omega) | exact la_row rfl rfl | exact la_loc rfl rfl rfl (by first | rfl | simp [mkL_length]) (by first | rfl | simp) | exact la_nil rfl | apply la_fn rfl | exact lend_same rfl rfl | exact lend_bor rfl rfl)) (fun p hp => ⟨1, by rw [List.mem_singleton.1 hp]; rfl⟩) (fun x hx => by cases hx), ?_⟩; (conv => whnf)
        refine ⟨_, _, cd, (by repeat' (first | exact lends_nil | exact lend_dead | apply lends_cons | apply lend_agg | apply lend_one | exact all2_nil | apply all2_cons | exact la_lit rfl | exact la_int (by first | rfl | omega) | exact la_row rfl rfl | exact la_loc rfl rfl rfl (by first | rfl | simp [mkL_length]) (by first | rfl | simp) | exact la_nil rfl | apply la_fn rfl | exact lend_same rfl rfl | exact lend_bor rfl rfl)), ?_⟩; (conv => whnf)
        (split <;> rename_i hc <;> (try simp only [decide_eq_true_eq, decide_eq_false_iff_not, Bool.not_eq_true', Bool.not_eq_false', Bool.not_eq_true, Bool.not_eq_false, List.length_map] at hc) <;> conv => whnf)
        · refine ⟨(k : Int), by rw [← wrap64_id] <;> omega, ?_⟩; (conv => whnf)
          exact lg_back ((k, o.1, r.drive) : Nat × Src × DDrive) ⟨by omega, ho.1, (hrr hc).2.2, hro.1.1, by rw [← hF]; show _ = runF B.l k (opF B.l S1).1 _; rw [e1, hr, if_pos hc]⟩ (by (try dsimp only); omega)
            (weak_swap 9 320 (weak_of (by repeat (first | refine all_cons (by first | rfl | exact eq_int rfl (by first | rfl | omega | (simp; done) | (simp; omega)) | exact eq_loc rfl (by first | rfl | omega | (simp; done) | (simp; omega)) | exact eq_bool rfl (by simp_all)) ?_ | exact all_nil)) (all_cons rfl (all_cons rfl (all_cons rfl (all_cons rfl (all_cons (eq_var (xs := [.loc 9 0 (r.drive.files.map DStored.enc).length, .lit (.int .i64 r.drive.room)]) rfl (by simp)) (all_cons (eq_row rfl rfl) all_nil)))))) rfl rfl))
        · refine ⟨(k : Int), by rw [← wrap64_id] <;> omega, ?_⟩; (conv => whnf)
          exact lg_back ((k, o.1, d) : Nat × Src × DDrive) ⟨by omega, ho.1, hd, hdo, by rw [← hF]; show _ = runF B.l k (opF B.l S1).1 _; rw [e1, hr, if_neg hc]⟩ (by (try dsimp only); omega) (weak_of (by repeat (first | refine all_cons (by first | rfl | exact eq_int rfl (by first | rfl | omega | (simp; done) | (simp; omega)) | exact eq_loc rfl (by first | rfl | omega | (simp; done) | (simp; omega)) | exact eq_bool rfl (by simp_all)) ?_ | exact all_nil)) (by repeat (first | refine all_cons (by first | rfl | exact eq_int rfl (by first | rfl | omega | (simp; done) | (simp; omega)) | exact eq_loc rfl (by first | rfl | omega | (simp; done) | (simp; omega)) | exact eq_bool rfl (by simp_all)) ?_ | exact all_nil)) rfl rfl)
  · have hk0 : k0 = 0 := by omega
    subst hk0
    have hF' : (S1, d) = R := hF
    subst hF'
    have hE' : spoilF B.l S1 d = res := hE
    obtain ⟨q1, g1⟩ : ∃ q, oneF B.l S1 15 = q := ⟨_, rfl⟩
    have d1 := one_c B hB S1 hS1 15 (inI_n (by omega))
    have k1 : (oneF B.l S1 15).1.ok B.l := (nF_ok hS1 (inI_n (k := 15) (by omega))).1
    rw [g1] at d1 k1
    refine ⟨_, _, ptr_ok 0 (d1) rfl rfl (by repeat' (first | exact lends_nil | exact lend_dead | apply lends_cons | apply lend_agg | apply lend_one | exact all2_nil | apply all2_cons | exact la_lit rfl | exact la_int (by first | rfl | omega) | exact la_row rfl rfl | exact la_loc rfl rfl rfl (by first | rfl | simp [mkL_length]) (by first | rfl | simp) | exact la_nil rfl | apply la_fn rfl | exact lend_same rfl rfl | exact lend_bor rfl rfl)) (fun p hp => ⟨1, by rw [List.mem_singleton.1 hp]; rfl⟩) (fun x hx => by cases hx), ?_⟩; (conv => whnf)
    (split <;> rename_i hb <;> (try simp only [decide_eq_true_eq, decide_eq_false_iff_not, Bool.not_eq_true', Bool.not_eq_false', Bool.not_eq_true, Bool.not_eq_false, List.length_map] at hb) <;> conv => whnf)
    · obtain ⟨q2, g2⟩ : ∃ q, nF B.l q1.1 5 = q := ⟨_, rfl⟩
      have d2 := n_c B hB q1.1 k1 5 (inI_n (by omega))
      have k2 := nF_ok k1 (inI_n (k := 5) (by omega))
      rw [g2] at d2 k2
      have hdl := ((driveOk_iff _).1 hd).1
      refine ⟨_, _, ptr_ok 0 (d2) rfl rfl (by repeat' (first | exact lends_nil | exact lend_dead | apply lends_cons | apply lend_agg | apply lend_one | exact all2_nil | apply all2_cons | exact la_lit rfl | exact la_int (by first | rfl | omega) | exact la_row rfl rfl | exact la_loc rfl rfl rfl (by first | rfl | simp [mkL_length]) (by first | rfl | simp) | exact la_nil rfl | apply la_fn rfl | exact lend_same rfl rfl | exact lend_bor rfl rfl)) (fun p hp => ⟨1, by rw [List.mem_singleton.1 hp]; rfl⟩) (fun x hx => by cases hx), ?_⟩; (conv => whnf)
      (split <;> rename_i h0 <;> (try simp only [decide_eq_true_eq, decide_eq_false_iff_not, Bool.not_eq_true', Bool.not_eq_false', Bool.not_eq_true, Bool.not_eq_false, List.length_map] at h0) <;> conv => whnf)
      · obtain ⟨q3, g3⟩ : ∃ q, nF B.l q2.1 4 = q := ⟨_, rfl⟩
        have d3 := n_c B hB q2.1 k2.1 4 (inI_n (by omega))
        obtain ⟨j, hj, hjl⟩ := nF_at k2.1 (most := 4) (by omega)
        rw [g3] at d3 hj
        have hjl' : j < rooms.length := by show j < 4; omega
        have hr : res = (q3.1, ⟨d.files, rooms[j]⟩) := by rw [← hE']; unfold spoilF; rw [g1, if_pos hb, g2, if_pos h0, g3, hj, Int.toNat_natCast, getD_at hjl']
        subst hr
        refine ⟨_, _, ptr_ok 0 (d3) rfl rfl (by repeat' (first | exact lends_nil | exact lend_dead | apply lends_cons | apply lend_agg | apply lend_one | exact all2_nil | apply all2_cons | exact la_lit rfl | exact la_int (by first | rfl | omega) | exact la_row rfl rfl | exact la_loc rfl rfl rfl (by first | rfl | simp [mkL_length]) (by first | rfl | simp) | exact la_nil rfl | apply la_fn rfl | exact lend_same rfl rfl | exact lend_bor rfl rfl)) (fun p hp => ⟨1, by rw [List.mem_singleton.1 hp]; rfl⟩) (fun x hx => by cases hx), ?_⟩; (conv => whnf)
        refine ⟨j, hj, hjl', ?_⟩; (conv => whnf)
        refine ⟨_, (at_map0 (f := eInt) (l := rooms) hjl' : _), ?_⟩; (conv => whnf)
        exact ⟨⟨close_row rfl rfl (by simp) (by simp), close_int rfl, trivial⟩, rfl, rfl⟩
      (split <;> rename_i h1' <;> (try simp only [decide_eq_true_eq, decide_eq_false_iff_not, Bool.not_eq_true', Bool.not_eq_false', Bool.not_eq_true, Bool.not_eq_false, List.length_map] at h1') <;> conv => whnf)
      · have hr : res = (q2.1, ⟨d.files ++ [⟨⟨#[97]⟩, ⟨#[]⟩, 0⟩], d.room⟩) := by rw [← hE']; unfold spoilF; rw [g1, if_pos hb, g2, if_neg h0, if_pos h1']
        subst hr
        refine ⟨true, [DStored.enc ⟨⟨#[97]⟩, ⟨#[]⟩, 0⟩], ⟨rfl, by simp [chunk], rfl, by simp [chunk]; rfl⟩, ?_⟩; (conv => whnf)
        refine ⟨_, laid_map (f := DStored.enc) (fun _ => rfl) [⟨⟨#[97]⟩, ⟨#[]⟩, 0⟩], rfl, by simp [chunk], rfl, by simp [maxLen, chunk]; omega, by simp [chunk]; omega, ?_⟩; (conv => whnf)
        exact ⟨⟨close_row rfl rfl (by simp [chunk]) (by simp [chunk]), close_int rfl, trivial⟩, rfl, rfl⟩
      (split <;> rename_i h2' <;> (try simp only [decide_eq_true_eq, decide_eq_false_iff_not, Bool.not_eq_true', Bool.not_eq_false', Bool.not_eq_true, Bool.not_eq_false, List.length_map] at h2') <;> conv => whnf)
      · (split <;> rename_i h3' <;> (try simp only [decide_eq_true_eq, decide_eq_false_iff_not, Bool.not_eq_true', Bool.not_eq_false', Bool.not_eq_true, Bool.not_eq_false, List.length_map] at h3') <;> conv => whnf)
        · have hpos : 0 < d.files.length := by omega
          obtain ⟨q3, g3⟩ : ∃ q, nF B.l q2.1 15 = q := ⟨_, rfl⟩
          have d3 := n_c B hB q2.1 k2.1 15 (inI_n (by omega))
          have k3 := nF_ok k2.1 (inI_n (k := 15) (by omega))
          rw [g3] at d3 k3
          have hr : res = (q3.1, ⟨d.files.set 0 ⟨d.files[0].name, d.files[0].text, q3.2 - 1⟩, d.room⟩) := by rw [← hE']; unfold spoilF; rw [g1, if_pos hb, g2, if_neg h0, if_neg h1', if_pos h2', List.getElem?_eq_getElem hpos, g3]
          subst hr
          refine ⟨?_, ?_, trivial⟩
          · (conv => whnf)
            refine ⟨_, _, ptr_ok 0 (d3) rfl rfl (by repeat' (first | exact lends_nil | exact lend_dead | apply lends_cons | apply lend_agg | apply lend_one | exact all2_nil | apply all2_cons | exact la_lit rfl | exact la_int (by first | rfl | omega) | exact la_row rfl rfl | exact la_loc rfl rfl rfl (by first | rfl | simp [mkL_length]) (by first | rfl | simp) | exact la_nil rfl | apply la_fn rfl | exact lend_same rfl rfl | exact lend_bor rfl rfl)) (fun p hp => ⟨1, by rw [List.mem_singleton.1 hp]; rfl⟩) (fun x hx => by cases hx), ?_⟩; (conv => whnf)
            refine ⟨q3.2 - 1, by rw [← wrap64_id] <;> omega, ?_⟩; (conv => whnf)
            refine ⟨0, rfl, hpos, ?_⟩; (conv => whnf)
            refine ⟨_, at_map0 hpos, ?_⟩; (conv => whnf)
            refine ⟨(d.files.set 0 ⟨d.files[0].name, d.files[0].text, q3.2 - 1⟩).map DStored.enc, set_enc0 rfl, ?_⟩; (conv => whnf)
            exact ⟨⟨close_row rfl rfl (by simp) rfl, close_int rfl, trivial⟩, rfl, rfl⟩
          · (conv => whnf)
            refine ⟨_, _, ptr_ok 0 (d3) rfl rfl (by repeat' (first | exact lends_nil | exact lend_dead | apply lends_cons | apply lend_agg | apply lend_one | exact all2_nil | apply all2_cons | exact la_lit rfl | exact la_int (by first | rfl | omega) | exact la_row rfl rfl | exact la_loc rfl rfl rfl (by first | rfl | simp [mkL_length]) (by first | rfl | simp) | exact la_nil rfl | apply la_fn rfl | exact lend_same rfl rfl | exact lend_bor rfl rfl)) (fun p hp => ⟨1, by rw [List.mem_singleton.1 hp]; rfl⟩) (fun x hx => by cases hx), ?_⟩; (conv => whnf)
            refine ⟨q3.2 - 1, by rw [← wrap64_id] <;> omega, ?_⟩; (conv => whnf)
            refine ⟨0, rfl, hpos, ?_⟩; (conv => whnf)
            refine ⟨_, at_map0 hpos, ?_⟩; (conv => whnf)
            refine ⟨(d.files.set 0 ⟨d.files[0].name, d.files[0].text, q3.2 - 1⟩).map DStored.enc, set_enc0 rfl, ?_⟩; (conv => whnf)
            exact ⟨⟨close_row rfl rfl (by simp) rfl, close_int rfl, trivial⟩, rfl, rfl⟩
        · have hf0 : d.files[0]? = none := List.getElem?_eq_none (by omega)
          have hr : res = (q2.1, d) := by rw [← hE']; unfold spoilF; rw [g1, if_pos hb, g2, if_neg h0, if_neg h1', if_pos h2', hf0]
          subst hr
          exact ⟨⟨close_row rfl rfl (by simp) (by simp), close_int rfl, trivial⟩, rfl, rfl⟩
      (split <;> rename_i h4' <;> (try simp only [decide_eq_true_eq, decide_eq_false_iff_not, Bool.not_eq_true', Bool.not_eq_false', Bool.not_eq_true, Bool.not_eq_false, List.length_map] at h4') <;> conv => whnf)
      · obtain ⟨Pf, gP⟩ : ∃ q, fillF B.l 62 q2.1 d.files 0 = q := ⟨_, rfl⟩
        have hr : res = (Pf.1, ⟨Pf.2, 100000⟩) := by rw [← hE']; unfold spoilF; rw [g1, if_pos hb, g2, if_neg h0, if_neg h1', if_neg h2', if_pos h4', gP]
        subst hr
        refine ⟨LG (fun p : Nat × Src × List DStored × Nat => 1 ≤ p.1 ∧ 62 ≤ p.2.2.1.length + p.1 ∧ p.2.2.2 ≤ p.2.2.1.length ∧ p.2.2.1.length ≤ 61 ∧ p.2.1.ok B.l ∧ fillF B.l p.1 p.2.1 p.2.2.1 p.2.2.2 = Pf) (fun p => p.1)
            (fun p => AS.of [(0, .one (.ptr 0 0)), (2, .one (.ptr 32 0)), (3, .one (.ptr 48 0)), (6, .one (.lit (.int .i64 (p.2.2.2 : Nat))))]
              [(0, .var ((p.2.1.cells B).map .lit)), (1, .par (.slice B.A B.l.length B.cap) (.row true 1 (B.l.map byteE))), (8, .pin 0 (.var b)), (32, .var [.lit (.slice none 0 0), .lit (.int .i64 0)]), (48, .var [.loc 9 0 p.2.2.1.length, .lit (.int .i64 100000)]), (9, .row true 3 (p.2.2.1.map DStored.enc))]),
          lg_init (62, q2.1, d.files, 0) ⟨by show 1 ≤ 62; decide, by show 62 ≤ d.files.length + 62; omega, Nat.zero_le _, by show d.files.length ≤ 61; omega, k2.1, gP⟩ (weak_of (by repeat (first | refine all_cons (by first | rfl | exact eq_int rfl (by first | rfl | omega | (simp; done) | (simp; omega)) | exact eq_loc rfl (by first | rfl | omega | (simp; done) | (simp; omega)) | exact eq_bool rfl (by simp_all)) ?_ | exact all_nil)) (by repeat (first | refine all_cons (by first | rfl | exact eq_int rfl (by first | rfl | omega | (simp; done) | (simp; omega)) | exact eq_loc rfl (by first | rfl | omega | (simp; done) | (simp; omega)) | exact eq_bool rfl (by simp_all)) ?_ | exact all_nil)) rfl rfl), ?_⟩
        rintro σ m0' ⟨⟨m, S2, fs, i⟩, ⟨hm1, hm2, hi, hfl, hS2, hF2⟩, hm0', rfl⟩
        simp only at hm1 hm2 hi hfl hS2 hF2 hm0' ⊢
        refine ⟨_, Weak.refl _, ?_⟩
        (conv => whnf)
        obtain ⟨m, rfl⟩ : ∃ k, m = k + 1 := ⟨m - 1, by omega⟩
        obtain ⟨q3, g3⟩ : ∃ q, nF B.l S2 3 = q := ⟨_, rfl⟩
        have d3 := n_c B hB S2 hS2 3 (inI_n (by omega))
        have k3 := nF_ok hS2 (inI_n (k := 3) (by omega))
        rw [g3] at d3 k3
        have hstep : fillF B.l (m + 1) S2 fs i = if (fs.length : Int) < 59 + q3.2 then fillF B.l m q3.1 (fs ++ [⟨fillN i, ⟨#[]⟩, 0⟩]) (i + 1) else (q3.1, fs) := by show (if (fs.length : Int) < 59 + (nF B.l S2 3).2 then _ else _) = _; rw [g3]
        have ht : ((i : Int)).tdiv 10 = ((i / 10 : Nat) : Int) := by rw [Int.tdiv_eq_ediv_of_nonneg (by omega)]; omega
        have ht2 : ((i : Int)).tmod 10 = ((i % 10 : Nat) : Int) := by rw [Int.tmod_eq_emod_of_nonneg (by omega)]; omega
        refine ⟨?_, ?_, trivial⟩
        · (conv => whnf)
          refine ⟨?_, ?_, trivial⟩
          · (conv => whnf)
            refine ⟨_, _, ptr_ok 0 (d3) rfl rfl (by repeat' (first | exact lends_nil | exact lend_dead | apply lends_cons | apply lend_agg | apply lend_one | exact all2_nil | apply all2_cons | exact la_lit rfl | exact la_int (by first | rfl | omega) | exact la_row rfl rfl | exact la_loc rfl rfl rfl (by first | rfl | simp [mkL_length]) (by first | rfl | simp) | exact la_nil rfl | apply la_fn rfl | exact lend_same rfl rfl | exact lend_bor rfl rfl)) (fun p hp => ⟨1, by rw [List.mem_singleton.1 hp]; rfl⟩) (fun x hx => by cases hx), ?_⟩; (conv => whnf)
            refine ⟨59 + q3.2, by rw [← wrap64_id] <;> omega, ?_⟩; (conv => whnf)
            (split <;> rename_i h7 <;> (try simp only [decide_eq_true_eq, decide_eq_false_iff_not, Bool.not_eq_true', Bool.not_eq_false', Bool.not_eq_true, Bool.not_eq_false, List.length_map] at h7) <;> conv => whnf)
            · rw [if_pos h7, hF2] at hstep
              refine ⟨by decide, ((i / 10 : Nat) : Int), by rw [ht, ← wrap64_id] <;> omega, ?_⟩; (conv => whnf)
              refine ⟨((97 + i / 10 : Nat) : Int), by rw [← wrap64_id] <;> omega, ?_⟩; (conv => whnf)
              refine ⟨((97 + i / 10 : Nat) : Int), u8w (by omega), ?_⟩; (conv => whnf)
              refine ⟨by decide, ((i % 10 : Nat) : Int), ht2.symm, ?_⟩; (conv => whnf)
              refine ⟨((48 + i % 10 : Nat) : Int), by rw [← wrap64_id] <;> omega, ?_⟩; (conv => whnf)
              refine ⟨((48 + i % 10 : Nat) : Int), u8w (by omega), ?_⟩; (conv => whnf)
              refine ⟨_, _, [UInt8.ofNat (97 + i / 10), UInt8.ofNat (48 + i % 10)], ⟨rfl, Nat.le_refl _, rfl, rfl⟩, u8pair (by omega) (by omega), ?_⟩; (conv => whnf)
              refine ⟨by show 1 + 2 ≤ _; decide, ?_⟩; (conv => whnf)
              refine ⟨true, [DStored.enc ⟨fillN i, ⟨#[]⟩, 0⟩], ⟨rfl, by simp [chunk], rfl, by simp [chunk, -UInt8.ofNat_add]; rfl⟩, ?_⟩; (conv => whnf)
              refine ⟨_, laid_map (f := DStored.enc) (fun _ => rfl) [⟨fillN i, ⟨#[]⟩, 0⟩], rfl, by simp [chunk], rfl, by simp [maxLen, chunk]; omega, by simp [chunk]; omega, ?_⟩; (conv => whnf)
              (refine ⟨((i + 1 : Nat) : Int), by rw [← wrap64_id] <;> omega, ?_⟩; conv => whnf)
              exact lg_back ((m, q3.1, fs ++ [⟨fillN i, ⟨#[]⟩, 0⟩], i + 1) : Nat × Src × List DStored × Nat) ⟨by omega, by simp; omega, by simp; omega, by simp; omega, k3.1, hstep.symm⟩ (by (try dsimp only); omega)
                (weak_of (by repeat (first | refine all_cons (by first | rfl | exact eq_int rfl (by first | rfl | omega | (simp; done) | (simp; omega)) | exact eq_loc rfl (by first | rfl | omega | (simp; done) | (simp; omega)) | exact eq_bool rfl (by simp_all)) ?_ | exact all_nil)) (all_cons rfl (all_cons rfl (all_cons rfl (all_cons rfl (all_cons (eq_var rfl (by simp [chunk, AV.kill])) (all_cons (eq_row rfl (by simp [chunk])) all_nil)))))) rfl rfl)
            · rw [if_neg h7, hF2] at hstep
              subst hstep
              exact ⟨⟨close_row rfl rfl (by simp) (by simp), close_int rfl, trivial⟩, rfl, rfl⟩
          · (conv => whnf)
            refine ⟨_, _, ptr_ok 0 (d3) rfl rfl (by repeat' (first | exact lends_nil | exact lend_dead | apply lends_cons | apply lend_agg | apply lend_one | exact all2_nil | apply all2_cons | exact la_lit rfl | exact la_int (by first | rfl | omega) | exact la_row rfl rfl | exact la_loc rfl rfl rfl (by first | rfl | simp [mkL_length]) (by first | rfl | simp) | exact la_nil rfl | apply la_fn rfl | exact lend_same rfl rfl | exact lend_bor rfl rfl)) (fun p hp => ⟨1, by rw [List.mem_singleton.1 hp]; rfl⟩) (fun x hx => by cases hx), ?_⟩; (conv => whnf)
            refine ⟨59 + q3.2, by rw [← wrap64_id] <;> omega, ?_⟩; (conv => whnf)
            (split <;> rename_i h7 <;> (try simp only [decide_eq_true_eq, decide_eq_false_iff_not, Bool.not_eq_true', Bool.not_eq_false', Bool.not_eq_true, Bool.not_eq_false, List.length_map] at h7) <;> conv => whnf)
            · rw [if_pos h7, hF2] at hstep
              refine ⟨by decide, ((i / 10 : Nat) : Int), by rw [ht, ← wrap64_id] <;> omega, ?_⟩; (conv => whnf)
              refine ⟨((97 + i / 10 : Nat) : Int), by rw [← wrap64_id] <;> omega, ?_⟩; (conv => whnf)
              refine ⟨((97 + i / 10 : Nat) : Int), u8w (by omega), ?_⟩; (conv => whnf)
              refine ⟨by decide, ((i % 10 : Nat) : Int), ht2.symm, ?_⟩; (conv => whnf)
              refine ⟨((48 + i % 10 : Nat) : Int), by rw [← wrap64_id] <;> omega, ?_⟩; (conv => whnf)
              refine ⟨((48 + i % 10 : Nat) : Int), u8w (by omega), ?_⟩; (conv => whnf)
              refine ⟨_, _, [UInt8.ofNat (97 + i / 10), UInt8.ofNat (48 + i % 10)], ⟨rfl, Nat.le_refl _, rfl, rfl⟩, u8pair (by omega) (by omega), ?_⟩; (conv => whnf)
              refine ⟨by show 1 + 2 ≤ _; decide, ?_⟩; (conv => whnf)
              refine ⟨true, [DStored.enc ⟨fillN i, ⟨#[]⟩, 0⟩], ⟨rfl, by simp [chunk], rfl, by simp [chunk, -UInt8.ofNat_add]; rfl⟩, ?_⟩; (conv => whnf)
              refine ⟨_, laid_map (f := DStored.enc) (fun _ => rfl) [⟨fillN i, ⟨#[]⟩, 0⟩], rfl, by simp [chunk], rfl, by simp [maxLen, chunk]; omega, by simp [chunk]; omega, ?_⟩; (conv => whnf)
              (refine ⟨((i + 1 : Nat) : Int), by rw [← wrap64_id] <;> omega, ?_⟩; conv => whnf)
              exact lg_back ((m, q3.1, fs ++ [⟨fillN i, ⟨#[]⟩, 0⟩], i + 1) : Nat × Src × List DStored × Nat) ⟨by omega, by simp; omega, by simp; omega, by simp; omega, k3.1, hstep.symm⟩ (by (try dsimp only); omega)
                (weak_of (by repeat (first | refine all_cons (by first | rfl | exact eq_int rfl (by first | rfl | omega | (simp; done) | (simp; omega)) | exact eq_loc rfl (by first | rfl | omega | (simp; done) | (simp; omega)) | exact eq_bool rfl (by simp_all)) ?_ | exact all_nil)) (all_cons rfl (all_cons rfl (all_cons rfl (all_cons rfl (all_cons (eq_var rfl (by simp [chunk, AV.kill])) (all_cons (eq_row rfl (by simp [chunk])) all_nil)))))) rfl rfl)
            · rw [if_neg h7, hF2] at hstep
              subst hstep
              exact ⟨⟨close_row rfl rfl (by simp) (by simp), close_int rfl, trivial⟩, rfl, rfl⟩
        · (conv => whnf)
          refine ⟨_, _, ptr_ok 0 (d3) rfl rfl (by repeat' (first | exact lends_nil | exact lend_dead | apply lends_cons | apply lend_agg | apply lend_one | exact all2_nil | apply all2_cons | exact la_lit rfl | exact la_int (by first | rfl | omega) | exact la_row rfl rfl | exact la_loc rfl rfl rfl (by first | rfl | simp [mkL_length]) (by first | rfl | simp) | exact la_nil rfl | apply la_fn rfl | exact lend_same rfl rfl | exact lend_bor rfl rfl)) (fun p hp => ⟨1, by rw [List.mem_singleton.1 hp]; rfl⟩) (fun x hx => by cases hx), ?_⟩; (conv => whnf)
          refine ⟨59 + q3.2, by rw [← wrap64_id] <;> omega, ?_⟩; (conv => whnf)
          (split <;> rename_i h7 <;> (try simp only [decide_eq_true_eq, decide_eq_false_iff_not, Bool.not_eq_true', Bool.not_eq_false', Bool.not_eq_true, Bool.not_eq_false, List.length_map] at h7) <;> conv => whnf)
          · rw [if_pos h7, hF2] at hstep
            refine ⟨by decide, ((i / 10 : Nat) : Int), by rw [ht, ← wrap64_id] <;> omega, ?_⟩; (conv => whnf)
            refine ⟨((97 + i / 10 : Nat) : Int), by rw [← wrap64_id] <;> omega, ?_⟩; (conv => whnf)
            refine ⟨((97 + i / 10 : Nat) : Int), u8w (by omega), ?_⟩; (conv => whnf)
            refine ⟨by decide, ((i % 10 : Nat) : Int), ht2.symm, ?_⟩; (conv => whnf)
            refine ⟨((48 + i % 10 : Nat) : Int), by rw [← wrap64_id] <;> omega, ?_⟩; (conv => whnf)
            refine ⟨((48 + i % 10 : Nat) : Int), u8w (by omega), ?_⟩; (conv => whnf)
            refine ⟨_, _, [UInt8.ofNat (97 + i / 10), UInt8.ofNat (48 + i % 10)], ⟨rfl, Nat.le_refl _, rfl, rfl⟩, u8pair (by omega) (by omega), ?_⟩; (conv => whnf)
            refine ⟨by show 1 + 2 ≤ _; decide, ?_⟩; (conv => whnf)
            refine ⟨true, [DStored.enc ⟨fillN i, ⟨#[]⟩, 0⟩], ⟨rfl, by simp [chunk], rfl, by simp [chunk, -UInt8.ofNat_add]; rfl⟩, ?_⟩; (conv => whnf)
            refine ⟨_, laid_map (f := DStored.enc) (fun _ => rfl) [⟨fillN i, ⟨#[]⟩, 0⟩], rfl, by simp [chunk], rfl, by simp [maxLen, chunk]; omega, by simp [chunk]; omega, ?_⟩; (conv => whnf)
            (refine ⟨((i + 1 : Nat) : Int), by rw [← wrap64_id] <;> omega, ?_⟩; conv => whnf)
            exact lg_back ((m, q3.1, fs ++ [⟨fillN i, ⟨#[]⟩, 0⟩], i + 1) : Nat × Src × List DStored × Nat) ⟨by omega, by simp; omega, by simp; omega, by simp; omega, k3.1, hstep.symm⟩ (by (try dsimp only); omega)
              (weak_of (by repeat (first | refine all_cons (by first | rfl | exact eq_int rfl (by first | rfl | omega | (simp; done) | (simp; omega)) | exact eq_loc rfl (by first | rfl | omega | (simp; done) | (simp; omega)) | exact eq_bool rfl (by simp_all)) ?_ | exact all_nil)) (all_cons rfl (all_cons rfl (all_cons rfl (all_cons rfl (all_cons (eq_var rfl (by simp [chunk, AV.kill])) (all_cons (eq_row rfl (by simp [chunk])) all_nil)))))) rfl rfl)
          · rw [if_neg h7, hF2] at hstep
            subst hstep
            exact ⟨⟨close_row rfl rfl (by simp) (by simp), close_int rfl, trivial⟩, rfl, rfl⟩
      · obtain ⟨q3, g3⟩ : ∃ q, bytesF B.l 60 q2.1 [] = q := ⟨_, rfl⟩
        have d3 := bytes_c B hB q2.1 k2.1 60 (by omega)
        rw [g3] at d3
        have hr : res = (q3.1, ⟨d.files ++ [⟨⟨#[122, 122]⟩, ⟨q3.2.toArray⟩, 0⟩], d.room⟩) := by rw [← hE']; unfold spoilF; rw [g1, if_pos hb, g2, if_neg h0, if_neg h1', if_neg h2', if_neg h4', g3]
        subst hr
        (conv => whnf)
        refine ⟨?_, ?_, trivial⟩
        · (conv => whnf)
          refine ⟨_, _, ptr_ok 0 (d3) rfl rfl (by repeat' (first | exact lends_nil | exact lend_dead | apply lends_cons | apply lend_agg | apply lend_one | exact all2_nil | apply all2_cons | exact la_lit rfl | exact la_int (by first | rfl | omega) | exact la_row rfl rfl | exact la_loc rfl rfl rfl (by first | rfl | simp [mkL_length]) (by first | rfl | simp) | exact la_nil rfl | apply la_fn rfl | exact lend_same rfl rfl | exact lend_bor rfl rfl)) (fun p hp => ⟨1, by rw [List.mem_singleton.1 hp]; rfl⟩) (fun x hx => by cases hx), ?_⟩; (conv => whnf)
          refine ⟨true, [DStored.enc ⟨⟨#[122, 122]⟩, ⟨q3.2.toArray⟩, 0⟩], ⟨rfl, by simp [chunk], rfl, by simp [chunk]; rfl⟩, ?_⟩; (conv => whnf)
          refine ⟨_, laid_map (f := DStored.enc) (fun _ => rfl) [⟨⟨#[122, 122]⟩, ⟨q3.2.toArray⟩, 0⟩], rfl, by simp [chunk], rfl, by simp [maxLen, chunk]; omega, by simp [chunk]; omega, ?_⟩; (conv => whnf)
          exact ⟨⟨close_row rfl rfl (by simp [chunk]) (by simp [chunk]), close_int rfl, trivial⟩, rfl, rfl⟩
        · (conv => whnf)
          refine ⟨_, _, ptr_ok 0 (d3) rfl rfl (by repeat' (first | exact lends_nil | exact lend_dead | apply lends_cons | apply lend_agg | apply lend_one | exact all2_nil | apply all2_cons | exact la_lit rfl | exact la_int (by first | rfl | omega) | exact la_row rfl rfl | exact la_loc rfl rfl rfl (by first | rfl | simp [mkL_length]) (by first | rfl | simp) | exact la_nil rfl | apply la_fn rfl | exact lend_same rfl rfl | exact lend_bor rfl rfl)) (fun p hp => ⟨1, by rw [List.mem_singleton.1 hp]; rfl⟩) (fun x hx => by cases hx), ?_⟩; (conv => whnf)
          refine ⟨true, [DStored.enc ⟨⟨#[122, 122]⟩, ⟨q3.2.toArray⟩, 0⟩], ⟨rfl, by simp [chunk], rfl, by simp [chunk]; rfl⟩, ?_⟩; (conv => whnf)
          refine ⟨_, laid_map (f := DStored.enc) (fun _ => rfl) [⟨⟨#[122, 122]⟩, ⟨q3.2.toArray⟩, 0⟩], rfl, by simp [chunk], rfl, by simp [maxLen, chunk]; omega, by simp [chunk]; omega, ?_⟩; (conv => whnf)
          exact ⟨⟨close_row rfl rfl (by simp [chunk]) (by simp [chunk]), close_int rfl, trivial⟩, rfl, rfl⟩
    · have hr : res = (q1.1, d) := by rw [← hE']; unfold spoilF; rw [g1, if_neg (by rw [hb]; decide)]
      subst hr
      exact ⟨⟨close_row rfl rfl (by simp) (by simp), close_int rfl, trivial⟩, rfl, rfl⟩
end Go.Proofs.Ytlijeincckbdaaa
namespace Go.Proofs.Ytlijeincckbdaaa
open Go.RowKit
set_option linter.unusedSimpArgs false
set_option linter.unusedVariables false
set_option maxRecDepth 100000
set_option maxHeartbeats 4000000
def drawDO (l : List UInt8) : DDrive × DOp := ((drawD l (sourceF l)).2, (opF l (drawD l (sourceF l)).1).2)
theorem drawDO_ok (l : List UInt8) : smallD (drawDO l).1 ∧ smallOp (drawDO l).2 := by
  have h1 := drawD_ok (sourceF_ok l)
  exact ⟨h1.2.2, (opF_ok h1.1).2.2⟩
theorem drawDO_c (l : List UInt8) (hl : l.length ≤ 4294967296) (d : DDrive) (o : DOp) (hd : (drawDO l).1 = d) (ho : (drawDO l).2 = o) :
    Fun1 Try.prog 33 [.one (.row true 1 (l.map byteE))] (.tup [(true, d.enc), (true, o.enc)]) := by
  obtain ⟨p1, e1⟩ : ∃ p, drawD l (sourceF l) = p := ⟨_, rfl⟩
  have k1 := drawD_ok (sourceF_ok l)
  rw [e1] at k1
  obtain ⟨p2, e2⟩ : ∃ p, opF l p1.1 = p := ⟨_, rfl⟩
  unfold drawDO at hd ho
  simp only [e1, e2] at hd ho
  subst hd ho
  refine law_row1 (E := tbO33) (tbF_ok _) mix (fn := Try.f33) Try.func33 rfl (by kernel_rfl) (by kernel_rfl) (by simp [Try.f33]) (by show (p1.2.enc.all (AV.nb 5) && (p2.2.enc.all (AV.nb 5) && true)) = true; rw [DDrive.enc_nb]; rfl) fun A cap => ?_
  have cs := source_c ⟨A, cap, l⟩ hl
  have c1 := drawD_c ⟨A, cap, l⟩ hl (sourceF l) (sourceF_ok l) p1 e1
  have c2 := op_c ⟨A, cap, l⟩ hl p1.1 k1.1 p2 e2
  simp only [Byt.pars, List.length_map] at cs c1 c2 ⊢
  (conv => whnf)
  refine ⟨_, _, new_ok 112 cs rfl (fun p hp => ⟨0, by rw [List.mem_singleton.1 hp]; rfl⟩) rfl, ?_⟩; (conv => whnf)
  refine ⟨_, _, ptr_ok 144 c1 rfl rfl (by repeat' (first | exact lends_nil | exact lend_dead | apply lends_cons | apply lend_agg | apply lend_one | exact all2_nil | apply all2_cons | exact la_lit rfl | exact la_int (by first | rfl | omega) | exact la_row rfl rfl | exact la_loc rfl rfl rfl (by first | rfl | simp [mkL_length]) (by first | rfl | simp) | exact la_nil rfl | apply la_fn rfl | exact lend_same rfl rfl | exact lend_bor rfl rfl)) (fun p hp => ⟨0, by rw [List.mem_singleton.1 hp]; rfl⟩) (fun x hx => by replace hx : x ∈ [(144, Blk.row true 3 (p1.2.files.map DStored.enc))] := hx; rw [List.mem_singleton.1 hx]; rfl), ?_⟩; (conv => whnf)
  refine ⟨?_, ?_, trivial⟩
  · (conv => whnf)
    refine ⟨_, _, ptr_ok 0 c2 rfl rfl (by repeat' (first | exact lends_nil | exact lend_dead | apply lends_cons | apply lend_agg | apply lend_one | exact all2_nil | apply all2_cons | exact la_lit rfl | exact la_int (by first | rfl | omega) | exact la_row rfl rfl | exact la_loc rfl rfl rfl (by first | rfl | simp [mkL_length]) (by first | rfl | simp) | exact la_nil rfl | apply la_fn rfl | exact lend_same rfl rfl | exact lend_bor rfl rfl)) (fun p hp => ⟨0, by rw [List.mem_singleton.1 hp]; rfl⟩) (fun x hx => by cases hx), ?_⟩; (conv => whnf)
    exact ⟨rfl, ⟨close_row rfl rfl (by simp) (by simp), close_int rfl, trivial⟩, rfl, ⟨close_int rfl, close_str rfl, close_str rfl, close_str rfl, trivial⟩, trivial⟩
  · (conv => whnf)
    refine ⟨_, _, ptr_ok 0 c2 rfl rfl (by repeat' (first | exact lends_nil | exact lend_dead | apply lends_cons | apply lend_agg | apply lend_one | exact all2_nil | apply all2_cons | exact la_lit rfl | exact la_int (by first | rfl | omega) | exact la_row rfl rfl | exact la_loc rfl rfl rfl (by first | rfl | simp [mkL_length]) (by first | rfl | simp) | exact la_nil rfl | apply la_fn rfl | exact lend_same rfl rfl | exact lend_bor rfl rfl)) (fun p hp => ⟨0, by rw [List.mem_singleton.1 hp]; rfl⟩) (fun x hx => by cases hx), ?_⟩; (conv => whnf)
    exact ⟨rfl, ⟨close_row rfl rfl (by simp) (by simp), close_int rfl, trivial⟩, rfl, ⟨close_int rfl, close_str rfl, close_str rfl, close_str rfl, trivial⟩, trivial⟩
theorem in7 : inI 7 := ⟨by decide, by decide⟩
/-- What is drawn to be kept. -/
def keepF (l : List UInt8) : List Int :=
  if (oneF l (listF l (-2) 14 (nF l (drawD l (sourceF l)).1 7).2.toNat (nF l (drawD l (sourceF l)).1 7).1 []).1 10).2 = true then
    (listF l (-2) 14 (nF l (drawD l (sourceF l)).1 7).2.toNat (nF l (drawD l (sourceF l)).1 7).1 []).2 ++ [(edgeF l (oneF l (listF l (-2) 14 (nF l (drawD l (sourceF l)).1 7).2.toNat (nF l (drawD l (sourceF l)).1 7).1 []).1 10).1).2]
  else (listF l (-2) 14 (nF l (drawD l (sourceF l)).1 7).2.toNat (nF l (drawD l (sourceF l)).1 7).1 []).2
theorem edgeF_in {l : List UInt8} {S : Src} (hS : S.ok l) : inI (edgeF l S).2 := by
  obtain ⟨q, hq, hql⟩ := nF_at hS (most := 14) (by omega)
  have hql' : q < edgeL.length := by show q < 14; omega
  have hr : (edgeF l S).2 = edgeL[q] := by show edgeL.getD (nF l S 14).2.toNat 0 = _; rw [hq, Int.toNat_natCast, getD_at hql']
  have : ∀ x ∈ edgeL, inI x := by unfold inI; decide
  rw [hr]
  exact this _ (List.getElem_mem hql')
theorem keepF_ok (l : List UInt8) : (keepF l).length ≤ 7 ∧ ∀ x ∈ keepF l, inI x := by
  have k1 := drawD_ok (sourceF_ok l)
  have k2 := nF_ok k1.1 (inI_n (k := 7) (by omega))
  have k3 := listF_ok (l := l) (lo := -2) (hi := 14) (by omega) (nF l (drawD l (sourceF l)).1 7).2.toNat (acc := []) k2.1 (fun x hx => by cases hx)
  have k4 := nF_ok k3.1 (inI_n (k := 10) (by omega))
  have hlen : (listF l (-2) 14 (nF l (drawD l (sourceF l)).1 7).2.toNat (nF l (drawD l (sourceF l)).1 7).1 []).2.length ≤ 6 := by
    rw [k3.2.2.1]; simp; omega
  unfold keepF
  split
  · refine ⟨by simp; omega, fun x hx => ?_⟩
    rw [List.mem_append, List.mem_singleton] at hx
    rcases hx with h | rfl
    · exact k3.2.2.2 x h
    · exact edgeF_in k4.1
  · exact ⟨by omega, k3.2.2.2⟩
theorem drawKeep_c (l : List UInt8) (hl : l.length ≤ 4294967296) (d : DDrive) (ks : List Int) (hd : (drawD l (sourceF l)).2 = d) (hk : keepF l = ks) :
    Fun1 Try.prog 37 [.one (.row true 1 (l.map byteE))] (.tup [(true, d.enc), (false, [.row true 1 (ks.map eInt)])]) := by
  obtain ⟨p1, e1⟩ : ∃ p, drawD l (sourceF l) = p := ⟨_, rfl⟩
  have k1 := drawD_ok (sourceF_ok l)
  rw [e1] at k1
  obtain ⟨p2, e2⟩ : ∃ p, nF l p1.1 7 = p := ⟨_, rfl⟩
  have k2 := nF_ok k1.1 (inI_n (k := 7) (by omega))
  rw [e2] at k2
  obtain ⟨p3, e3⟩ : ∃ p, listF l (-2) 14 p2.2.toNat p2.1 [] = p := ⟨_, rfl⟩
  have k3 := listF_ok (l := l) (lo := -2) (hi := 14) (by omega) p2.2.toNat (acc := []) k2.1 (fun x hx => by cases hx)
  rw [e3] at k3
  obtain ⟨p4, e4⟩ : ∃ p, oneF l p3.1 10 = p := ⟨_, rfl⟩
  have k4 : (oneF l p3.1 10).1.ok l := (nF_ok k3.1 (inI_n (k := 10) (by omega))).1
  rw [e4] at k4
  obtain ⟨p5, e5⟩ : ∃ p, edgeF l p4.1 = p := ⟨_, rfl⟩
  have hK : keepF l = if p4.2 = true then p3.2 ++ [p5.2] else p3.2 := by unfold keepF; rw [e1, e2, e3, e4, e5]
  rw [hK] at hk
  rw [e1] at hd
  subst hd
  refine law_row1 (E := tb) tb_ok mix (fn := Try.f37) Try.func37 rfl (by kernel_rfl) (by kernel_rfl) (by simp [Try.f37]) (by show (p1.2.enc.all (AV.nb 5) && (([AV.row true 1 (ks.map eInt)].all (AV.nb 5)) && true)) = true; rw [DDrive.enc_nb]; simp; exact nb_map (n := 4) (fun y => rfl) _) fun A cap => ?_
  have cs := source_c ⟨A, cap, l⟩ hl
  have c1 := drawD_c ⟨A, cap, l⟩ hl (sourceF l) (sourceF_ok l) p1 e1
  have c2 := n_c ⟨A, cap, l⟩ hl p1.1 k1.1 7 in7
  have c3 := list_c ⟨A, cap, l⟩ hl p2.1 k2.1 p2.2.toNat (by omega) (-2) 14 (by omega)
  have c4 := one_c ⟨A, cap, l⟩ hl p3.1 k3.1 10 (inI_n (by omega))
  have c5 := edge_c ⟨A, cap, l⟩ hl p4.1 k4
  simp only [Byt.pars, List.length_map, e2, e3, e4, e5] at cs c1 c2 c3 c4 c5 ⊢
  (conv => whnf)
  refine ⟨_, _, new_ok 128 cs rfl (fun p hp => ⟨0, by rw [List.mem_singleton.1 hp]; rfl⟩) rfl, ?_⟩; (conv => whnf)
  refine ⟨_, _, ptr_ok 160 c1 rfl rfl (by repeat' (first | exact lends_nil | exact lend_dead | apply lends_cons | apply lend_agg | apply lend_one | exact all2_nil | apply all2_cons | exact la_lit rfl | exact la_int (by first | rfl | omega) | exact la_row rfl rfl | exact la_loc rfl rfl rfl (by first | rfl | simp [mkL_length]) (by first | rfl | simp) | exact la_nil rfl | apply la_fn rfl | exact lend_same rfl rfl | exact lend_bor rfl rfl)) (fun p hp => ⟨0, by rw [List.mem_singleton.1 hp]; rfl⟩) (fun x hx => by replace hx : x ∈ [(160, Blk.row true 3 (p1.2.files.map DStored.enc))] := hx; rw [List.mem_singleton.1 hx]; rfl), ?_⟩; (conv => whnf)
  refine ⟨_, _, ptr_ok 0 c2 rfl rfl (by repeat' (first | exact lends_nil | exact lend_dead | apply lends_cons | apply lend_agg | apply lend_one | exact all2_nil | apply all2_cons | exact la_lit rfl | exact la_int (by first | rfl | omega) | exact la_row rfl rfl | exact la_loc rfl rfl rfl (by first | rfl | simp [mkL_length]) (by first | rfl | simp) | exact la_nil rfl | apply la_fn rfl | exact lend_same rfl rfl | exact lend_bor rfl rfl)) (fun p hp => ⟨0, by rw [List.mem_singleton.1 hp]; rfl⟩) (fun x hx => by cases hx), ?_⟩; (conv => whnf)
  refine ⟨_, _, ptr_ok 224 c3 rfl rfl (lends_cons (lend_one (la_int (by omega))) (lends_cons (lend_one (la_int rfl)) (lends_cons (lend_one (la_int rfl)) lends_nil))) (fun p hp => ⟨0, by rw [List.mem_singleton.1 hp]; rfl⟩) (fun x hx => by replace hx : x ∈ [(224, Blk.row true 1 (p3.2.map eInt))] := hx; rw [List.mem_singleton.1 hx]; rfl), ?_⟩; (conv => whnf)
  refine ⟨_, _, ptr_ok 0 c4 rfl rfl (by repeat' (first | exact lends_nil | exact lend_dead | apply lends_cons | apply lend_agg | apply lend_one | exact all2_nil | apply all2_cons | exact la_lit rfl | exact la_int (by first | rfl | omega) | exact la_row rfl rfl | exact la_loc rfl rfl rfl (by first | rfl | simp [mkL_length]) (by first | rfl | simp) | exact la_nil rfl | apply la_fn rfl | exact lend_same rfl rfl | exact lend_bor rfl rfl)) (fun p hp => ⟨0, by rw [List.mem_singleton.1 hp]; rfl⟩) (fun x hx => by cases hx), ?_⟩; (conv => whnf)
  (split <;> rename_i hb <;> (try simp only [decide_eq_true_eq, decide_eq_false_iff_not, Bool.not_eq_true', Bool.not_eq_false', Bool.not_eq_true, Bool.not_eq_false, List.length_map] at hb) <;> conv => whnf)
  · rw [if_pos hb] at hk
    subst hk
    refine ⟨_, _, ptr_ok 0 c5 rfl rfl (by repeat' (first | exact lends_nil | exact lend_dead | apply lends_cons | apply lend_agg | apply lend_one | exact all2_nil | apply all2_cons | exact la_lit rfl | exact la_int (by first | rfl | omega) | exact la_row rfl rfl | exact la_loc rfl rfl rfl (by first | rfl | simp [mkL_length]) (by first | rfl | simp) | exact la_nil rfl | apply la_fn rfl | exact lend_same rfl rfl | exact lend_bor rfl rfl)) (fun p hp => ⟨0, by rw [List.mem_singleton.1 hp]; rfl⟩) (fun x hx => by cases hx), ?_⟩; (conv => whnf)
    have hp3 : p3.2.length ≤ 7 := by rw [k3.2.2.1]; simp; omega
    refine ⟨true, [eInt p5.2], ⟨rfl, by simp [chunk], rfl, by simp [chunk]; rfl⟩, ?_⟩; (conv => whnf)
    refine ⟨_, laid_map (f := eInt) (fun _ => rfl) [p5.2], rfl, by simp [chunk], rfl, by simp [maxLen, chunk]; omega, by simp [chunk]; omega, ?_⟩; (conv => whnf)
    exact ⟨rfl, ⟨close_row rfl rfl (by simp) (by simp), close_int rfl, trivial⟩, rfl, ⟨close_row rfl rfl (by simp [chunk]) (by simp [chunk]), trivial⟩, trivial⟩
  · rw [if_neg (by rw [hb]; decide)] at hk
    subst hk
    exact ⟨rfl, ⟨close_row rfl rfl (by simp) (by simp), close_int rfl, trivial⟩, rfl, ⟨close_row rfl rfl (by simp) (by simp), trivial⟩, trivial⟩
end Go.Proofs.Ytlijeincckbdaaa
