/- What the functions that clone a drive, and let it crash, do. -/
import Derived.Test.YtdgnpkffdiopaaaW5
import Derived.WalkSpells
import Derived.Lib.SliceRun
import Derived.Lib.MinMax
import Derived.StillTailTactics
namespace Go.Proofs.Ytdgnpkffdiopaaa
open Go.RowKit
set_option linter.unusedSimpArgs false
set_option linter.unusedVariables false
set_option maxRecDepth 100000 in
set_option maxHeartbeats 4000000 in
theorem crashed_c (x : DDrive) (keep : List Int) (A : Option Addr) (c : Nat) (A2 : Option Addr) (c2 : Nat) (w : World) (H : Rd kStored w A c x.files) (H2 : Rd kInt w A2 c2 keep) (hB : bDrive x ≤ 1099511627776) (hok : driveOk x = true) :
    Calls Try.prog 48 #[.agg #[.slice A x.files.length c, .int .i64 x.room], .slice A2 keep.length c2] w fun e w' => ∃ A' c' F, e = .returned (.agg #[.slice A' x.files.length c', .int .i64 x.room]) ∧ Ow kStored 62 w' F (.slice A' x.files.length c') (crash keep x).files ∧ (∀ b ∈ F, w.heap.size ≤ b) ∧ Below w.heap.size w w' := by
  have hn := H.1
  have hm := H.2.1
  unfold maxLen at hm
  have hB' : bL bStored x.files ≤ 1099511627776 := hB
  have hk1 := H2.1
  have hk2 := H2.2.1
  unfold maxLen at hk2
  go_enter Try.func48, Try.ntmps48
  go_wp2_with fail
  refine (copied_c x A c _ (H.below (by repeat' (first | assumption | exact Below.refl _ _ | (refine Below.alloc ?_ (by first | exact Nat.le_refl _ | omega | (simp; done) | (simp; omega)) _) | refine Below.drew ?_ | (refine below_drewN ?_ _) | (refine Below.setCell ?_ (by first | exact Nat.le_refl _ | omega | (simp; done) | (simp; omega)) _)))) (by omega)).mono ?_
  rintro e w1 ⟨A', c', F, rfl, ho, hF, hb1⟩
  have hFl := ho.lt
  have hFn : ∀ b ∈ F, w.heap.size + 2 ≤ b := fun b hb => by have := hF b hb; simp at this; omega
  have r0 : w1.cell? ⟨w.heap.size + 1, 0, none⟩ = some (.slice none 0 0) := cell_later hb1 (by simp)
  have r1 : w1.cell? ⟨w.heap.size + 1, 1, none⟩ = some (.int .i64 0) := cell_later hb1 (by simp)
  have s0 : w1.frozen? ⟨w.heap.size + 1, 0, none⟩ = false := (hb1.frozen (p := ⟨w.heap.size + 1, 0, none⟩) (by first | (simp; done) | (simp; omega) | omega)).trans (by simp)
  have s1 : w1.frozen? ⟨w.heap.size + 1, 1, none⟩ = false := (hb1.frozen (p := ⟨w.heap.size + 1, 1, none⟩) (by first | (simp; done) | (simp; omega) | omega)).trans (by simp)
  have hz1 : w.heap.size + 2 ≤ w1.heap.size := by have := hb1.size; simp at this; omega
  have hB1 : Below w.heap.size w w1 := Below.step (by repeat' (first | assumption | exact Below.refl _ _ | (refine Below.alloc ?_ (by first | exact Nat.le_refl _ | omega | (simp; done) | (simp; omega)) _) | refine Below.drew ?_ | (refine below_drewN ?_ _) | (refine Below.setCell ?_ (by first | exact Nat.le_refl _ | omega | (simp; done) | (simp; omega)) _))) hb1
  clear hb1 hF
  go_wp2_with fail
  go_loopw [6, 7, 8, 14] (fun _ _ _ i wr => ∃ (kk : Nat) (F' : List Nat), kk ≤ x.files.length ∧ i = .int .i64 kk ∧ Ow kStored 62 wr F' (.slice A' x.files.length c') (upTo (crashOne keep) x.files kk) ∧ (∀ b ∈ F', b ∈ F) ∧ Hid (Keep F w1 wr) ∧ wr.cell? ⟨w1.heap.size, 0, none⟩ = some (.slice A' x.files.length c') ∧ wr.cell? ⟨w1.heap.size, 1, none⟩ = some (.int .i64 x.room)) (fun _ _ _ i _ => x.files.length - (intOf i).toNat)
  case atStart => exact ⟨0, F, by omega, rfl, by rw [upTo_zero]; exact (by repeat' (first | assumption | (refine Ow.setCell_ne ?_ (by first | assumption | (refine ne_of_new (by assumption) ?_; first | omega | (simp; done) | (simp; omega)) | (refine ne_of_old (by assumption) ?_; first | omega | (simp; done) | (simp; omega))) _) | refine Ow.alloc ?_ _ | refine Ow.drew ?_ | refine Ow.drewN ?_ _)), fun _ h => h, Keep.alloc _ _ _, by simp, by simp⟩
  case round =>
    obtain ⟨k, F', hk, rfl, ho', hF', hb, b0, b1⟩ := hrel
    by_cases hlt : k < x.files.length
    · have hl : Hid ((upTo (crashOne keep) x.files k).length = x.files.length) := upTo_length _ hk
      have hlt' : k < (upTo (crashOne keep) x.files k).length := by rw [hl.out]; exact hlt
      have hget : Hid ((upTo (crashOne keep) x.files k)[k] = x.files[k]) := upTo_get _ hlt
      have hsucc : Hid ((upTo (crashOne keep) x.files k).set k (crashOne keep k x.files[k]) = upTo (crashOne keep) x.files (k + 1)) := upTo_succ _ hlt
      have hfo := fOk_of hok hlt
      generalize upTo (crashOne keep) x.files k = ys at *
      generalize hf : x.files[k] = f at *
      have Hf := Lib.hid hf
      clear hf
      obtain ⟨g, rfl, hgF, hg⟩ := ho'.pos (by decide) (by omega)
      obtain ⟨_, _, e0, _, q0, q1, q2⟩ := rdStored ho'.rd.2 hlt'
      cases e0
      rw [hget.out] at q0 q1 q2
      simp only [Nat.zero_add] at q0 q1 q2
      have hk0 : (0 : Int) ≤ (k : Int) := Int.natCast_nonneg _
      have hk1 : (k : Int) < (x.files.length : Int) := by omega
      obtain ⟨_, t1, t2, t3⟩ := hfo
      have hbw : Below w.heap.size w wr := Below.keep hB1 hb.out (fun b hb => by have := hFn b hb; omega) (by omega)
      have hz2 : w1.heap.size < wr.heap.size := World.block_lt_of_cell? _ _ b0
      have hgl : g < w1.heap.size := hFl g (hF' g hgF)
      have hgn : g ≠ wr.heap.size := by omega
      have hfz := ho'.free
      have hlo := ho'.lt
      by_cases c1 : k < keep.length
      case neg =>
        have d1 : ¬ (k : Int) < (keep.length : Int) := by omega
        have e0 : Hid (crashN keep k f = f.synced + 0) := by
          show _ = _
          unfold crashN; rw [List.getElem?_eq_none (by omega)]; simp
        have hm0 : f.synced + 0 ≤ f.text.size := by omega
        go_wp2_with fail
        go_region
        go_wp2_with fail
        refine ⟨?_, by simp [intOf]; omega⟩
        have hcy : ([.string f.name, .string (f.text.extract 0 f.synced.toNat), .int .i64 f.synced] : List Value) = (crashOne keep k f).enc := by unfold crashOne; rw [e0.out, Int.add_zero]; rfl
        refine Ow.storeAD (d := kStored) (e := 62) (F := F') (g := g) (n := x.files.length) (c := c') (xs := ys) (R := fun wr => ∃ (kk : Nat) (F' : List Nat), kk ≤ x.files.length ∧ Value.int .i64 ((k : Int) + 1) = .int .i64 kk ∧ Ow kStored 62 wr F' (.slice (some ⟨g, 0, none⟩) x.files.length c') (upTo (crashOne keep) x.files kk) ∧ (∀ b ∈ F', b ∈ F) ∧ Hid (Keep F w1 wr) ∧ wr.cell? ⟨w1.heap.size, 0, none⟩ = some (.slice (some ⟨g, 0, none⟩) x.files.length c') ∧ wr.cell? ⟨w1.heap.size, 1, none⟩ = some (.int .i64 x.room)) (wr := wr) (k := k) (y := crashOne keep k f) (cy := [.string f.name, .string (f.text.extract 0 f.synced.toNat), .int .i64 f.synced]) ?ow ?be (by decide) hlt' ⟨rfl, hcy⟩ no_mem' ?fin
        case ow => exact (by repeat' (first | assumption | (refine Ow.setCell_ne ?_ (by first | assumption | (refine ne_of_new (by assumption) ?_; first | omega | (simp; done) | (simp; omega)) | (refine ne_of_old (by assumption) ?_; first | omega | (simp; done) | (simp; omega))) _) | refine Ow.alloc ?_ _ | refine Ow.drew ?_ | refine Ow.drewN ?_ _))
        case be => exact (by repeat' (first | assumption | exact Below.refl _ _ | (refine Below.alloc ?_ (by first | exact Nat.le_refl _ | omega | (simp; done) | (simp; omega)) _) | refine Below.drew ?_ | (refine below_drewN ?_ _) | (refine Below.setCell ?_ (by first | exact Nat.le_refl _ | omega | (simp; done) | (simp; omega)) _)))
        case fin =>
          intro w' F2 ho2 hF2 hK
          rw [hsucc.out] at ho2
          exact ⟨k + 1, F2, by omega, rfl, ho2, fun b hb => (hF2 b hb).elim (hF' b) (fun h => by cases h), hb.out.trans (hK.mono (fun b hb => by simp at hb; subst hb; exact hF' _ hgF)), hK.cell (by simp; omega) b0, hK.cell (by simp; omega) b1⟩
      obtain ⟨b, o, rfl, ha, p0⟩ := rdInt (H2.below hbw) c1
      by_cases c2 : 0 < keep[k]
      case neg =>
        have d1 : (k : Int) < (keep.length : Int) := by omega
        have d2 : ¬ (0 : Int) < keep[k] := c2
        have e0 : Hid (crashN keep k f = f.synced + 0) := by
          show _ = _
          unfold crashN; rw [List.getElem?_eq_getElem c1]; simp [c2]
        generalize keep[k] = q at *
        have hm0 : f.synced + 0 ≤ f.text.size := by omega
        go_wp2_with fail
        go_region
        go_wp2_with fail
        refine ⟨?_, by simp [intOf]; omega⟩
        have hcy : ([.string f.name, .string (f.text.extract 0 f.synced.toNat), .int .i64 f.synced] : List Value) = (crashOne keep k f).enc := by unfold crashOne; rw [e0.out, Int.add_zero]; rfl
        refine Ow.storeAD (d := kStored) (e := 62) (F := F') (g := g) (n := x.files.length) (c := c') (xs := ys) (R := fun wr => ∃ (kk : Nat) (F' : List Nat), kk ≤ x.files.length ∧ Value.int .i64 ((k : Int) + 1) = .int .i64 kk ∧ Ow kStored 62 wr F' (.slice (some ⟨g, 0, none⟩) x.files.length c') (upTo (crashOne keep) x.files kk) ∧ (∀ b ∈ F', b ∈ F) ∧ Hid (Keep F w1 wr) ∧ wr.cell? ⟨w1.heap.size, 0, none⟩ = some (.slice (some ⟨g, 0, none⟩) x.files.length c') ∧ wr.cell? ⟨w1.heap.size, 1, none⟩ = some (.int .i64 x.room)) (wr := wr) (k := k) (y := crashOne keep k f) (cy := [.string f.name, .string (f.text.extract 0 f.synced.toNat), .int .i64 f.synced]) ?ow ?be (by decide) hlt' ⟨rfl, hcy⟩ no_mem' ?fin
        case ow => exact (by repeat' (first | assumption | (refine Ow.setCell_ne ?_ (by first | assumption | (refine ne_of_new (by assumption) ?_; first | omega | (simp; done) | (simp; omega)) | (refine ne_of_old (by assumption) ?_; first | omega | (simp; done) | (simp; omega))) _) | refine Ow.alloc ?_ _ | refine Ow.drew ?_ | refine Ow.drewN ?_ _))
        case be => exact (by repeat' (first | assumption | exact Below.refl _ _ | (refine Below.alloc ?_ (by first | exact Nat.le_refl _ | omega | (simp; done) | (simp; omega)) _) | refine Below.drew ?_ | (refine below_drewN ?_ _) | (refine Below.setCell ?_ (by first | exact Nat.le_refl _ | omega | (simp; done) | (simp; omega)) _)))
        case fin =>
          intro w' F2 ho2 hF2 hK
          rw [hsucc.out] at ho2
          exact ⟨k + 1, F2, by omega, rfl, ho2, fun b hb => (hF2 b hb).elim (hF' b) (fun h => by cases h), hb.out.trans (hK.mono (fun b hb => by simp at hb; subst hb; exact hF' _ hgF)), hK.cell (by simp; omega) b0, hK.cell (by simp; omega) b1⟩
      have d1 : (k : Int) < (keep.length : Int) := by omega
      have d2 : (0 : Int) < keep[k] := c2
      have e0 : Hid (crashN keep k f = f.synced + min keep[k] (f.text.size - f.synced)) := by
        show _ = _
        unfold crashN; rw [List.getElem?_eq_getElem c1]; simp [c2]
      have hm0 : (0 : Int) ≤ min keep[k] (f.text.size - f.synced) := by omega
      have hm1 : f.synced + min keep[k] (f.text.size - f.synced) ≤ f.text.size := by omega
      generalize keep[k] = q at *
      go_wp2_with fail
      go_quiet ((go_at_call 42; exact quietR (long_c _ _)))
      generalize min q (f.text.size - f.synced) = m at *
      go_wp2_with fail
      go_region
      go_wp2_with fail
      refine ⟨?_, by simp [intOf]; omega⟩
      have hcy : ([.string f.name, .string (f.text.extract 0 (f.synced + m).toNat), .int .i64 (f.synced + m)] : List Value) = (crashOne keep k f).enc := by unfold crashOne; rw [e0.out]; rfl
      refine Ow.store (d := kStored) (e := 62) (F := F') (g := g) (n := x.files.length) (c := c') (xs := ys) (R := fun wr => ∃ (kk : Nat) (F' : List Nat), kk ≤ x.files.length ∧ Value.int .i64 ((k : Int) + 1) = .int .i64 kk ∧ Ow kStored 62 wr F' (.slice (some ⟨g, 0, none⟩) x.files.length c') (upTo (crashOne keep) x.files kk) ∧ (∀ b ∈ F', b ∈ F) ∧ Hid (Keep F w1 wr) ∧ wr.cell? ⟨w1.heap.size, 0, none⟩ = some (.slice (some ⟨g, 0, none⟩) x.files.length c') ∧ wr.cell? ⟨w1.heap.size, 1, none⟩ = some (.int .i64 x.room)) (wr := wr) (k := k) (y := crashOne keep k f) (cy := [.string f.name, .string (f.text.extract 0 (f.synced + m).toNat), .int .i64 (f.synced + m)]) ?ow ?be (by decide) hlt' ⟨rfl, hcy⟩ no_mem' ?fin
      case ow => exact (by repeat' (first | assumption | (refine Ow.setCell_ne ?_ (by first | assumption | (refine ne_of_new (by assumption) ?_; first | omega | (simp; done) | (simp; omega)) | (refine ne_of_old (by assumption) ?_; first | omega | (simp; done) | (simp; omega))) _) | refine Ow.alloc ?_ _ | refine Ow.drew ?_ | refine Ow.drewN ?_ _))
      case be => exact (by repeat' (first | assumption | exact Below.refl _ _ | (refine Below.alloc ?_ (by first | exact Nat.le_refl _ | omega | (simp; done) | (simp; omega)) _) | refine Below.drew ?_ | (refine below_drewN ?_ _) | (refine Below.setCell ?_ (by first | exact Nat.le_refl _ | omega | (simp; done) | (simp; omega)) _)))
      case fin =>
        intro w' F2 ho2 hF2 hK
        rw [hsucc.out] at ho2
        exact ⟨k + 1, F2, by omega, rfl, ho2, fun b hb => (hF2 b hb).elim (hF' b) (fun h => by cases h), hb.out.trans (hK.mono (fun b hb => by simp at hb; subst hb; exact hF' _ hgF)), hK.cell (by simp; omega) b0, hK.cell (by simp; omega) b1⟩
    · obtain rfl : k = x.files.length := by omega
      have hn0 : w.heap.size + 1 ∉ F := fun h => by have := hFn _ h; omega
      have hz2 := hb.out.size
      replace r0 := hb.out.cell hn0 r0
      replace r1 := hb.out.cell hn0 r1
      replace s0 := (hb.out.frozens ⟨w.heap.size + 1, 0, none⟩ (by first | (simp; done) | (simp; omega) | omega) hn0).trans s0
      replace s1 := (hb.out.frozens ⟨w.heap.size + 1, 1, none⟩ (by first | (simp; done) | (simp; omega) | omega) hn0).trans s1
      rw [upTo_all] at ho'
      have hbw : Below w.heap.size w wr := Below.keep hB1 hb.out (fun b hb => by have := hFn b hb; omega) (by omega)
      have hFN : ∀ b ∈ F', w.heap.size + 2 ≤ b := fun b hb => hFn b (hF' b hb)
      go_wp2_with fail
      exact bodyPost_ret (v := .agg #[.slice A' x.files.length c', .int .i64 x.room]) (by simp [results, Try.results48, go_sem, r0, r1]) rfl ⟨A', c', F', rfl, (by repeat' (first | assumption | (refine Ow.setCell_ne ?_ (by first | assumption | (refine ne_of_new (by assumption) ?_; first | omega | (simp; done) | (simp; omega)) | (refine ne_of_old (by assumption) ?_; first | omega | (simp; done) | (simp; omega))) _) | refine Ow.alloc ?_ _ | refine Ow.drew ?_ | refine Ow.drewN ?_ _)), fun b hb => by have := hFN b hb; omega, (by repeat' (first | assumption | exact Below.refl _ _ | (refine Below.alloc ?_ (by first | exact Nat.le_refl _ | omega | (simp; done) | (simp; omega)) _) | refine Below.drew ?_ | (refine below_drewN ?_ _) | (refine Below.setCell ?_ (by first | exact Nat.le_refl _ | omega | (simp; done) | (simp; omega)) _)))⟩
end Go.Proofs.Ytdgnpkffdiopaaa
