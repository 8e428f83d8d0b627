/- What impl.DriveRight does. -/
import Derived.Test.YtdgnpkffdiopaaaW2
namespace Go.Proofs.Ytdgnpkffdiopaaa
open Go.RowKit
set_option linter.unusedSimpArgs false
set_option linter.unusedVariables false
set_option maxHeartbeats 4000000 in
theorem driveOk_c (x : DDrive) (A : Option Addr) (c : Nat) (w : World) (H : Rd kStored w A c x.files) (hB : bDrive x ≤ 1099511627776) :
    Calls Try.prog 38 #[.agg #[.slice A x.files.length c, .int .i64 x.room]] w fun e w' => e = .returned (.bool (driveOk x)) ∧ Below w.heap.size w w' := by
  have hn := H.1
  have hm := H.2.1
  unfold maxLen at hm
  have hB' : bL bStored x.files ≤ 1099511627776 := hB
  have hu0 := usedB_nonneg x.files
  by_cases l1 : (x.files.length : Int) ≤ 60
  case neg =>
    have hno : Hid (driveOk x = false) := by show _ = _; unfold driveOk; simp; omega
    go_enter Try.func38, Try.ntmps38
    go_wp2_with (go_at_call 41; refine (within_c _ _ _ _).mono ?_; rintro e w1 ⟨rfl, rfl⟩)
    go_ret
    exact ⟨by rw [hno.out]; rfl, (by repeat' (first | assumption | exact Below.refl _ _ | (refine Below.alloc ?_ (by first | exact Nat.le_refl _ | omega | (simp; done) | (simp; omega)) _) | refine Below.drew ?_ | (refine below_drewN ?_ _) | (refine Below.setCell ?_ (by first | exact Nat.le_refl _ | omega | (simp; done) | (simp; omega)) _)))⟩
  by_cases l2 : 0 ≤ x.room
  case neg =>
    have r2 : decide (0 ≤ x.room) = false := decide_eq_false (by omega)
    have hno : Hid (driveOk x = false) := by show _ = _; unfold driveOk; simp; omega
    go_enter Try.func38, Try.ntmps38
    go_wp2_with (go_at_call 41; refine (within_c _ _ _ _).mono ?_; rintro e w1 ⟨rfl, rfl⟩)
    go_ret
    exact ⟨by rw [hno.out]; rfl, (by repeat' (first | assumption | exact Below.refl _ _ | (refine Below.alloc ?_ (by first | exact Nat.le_refl _ | omega | (simp; done) | (simp; omega)) _) | refine Below.drew ?_ | (refine below_drewN ?_ _) | (refine Below.setCell ?_ (by first | exact Nat.le_refl _ | omega | (simp; done) | (simp; omega)) _)))⟩
  have r2 : decide (0 ≤ x.room) = true := decide_eq_true (by omega)
  by_cases l3 : x.room ≤ 100000
  case neg =>
    have r3 : decide (x.room ≤ 100000) = false := decide_eq_false (by omega)
    have hno : Hid (driveOk x = false) := by show _ = _; unfold driveOk; simp; omega
    go_enter Try.func38, Try.ntmps38
    go_wp2_with (go_at_call 41; refine (within_c _ _ _ _).mono ?_; rintro e w1 ⟨rfl, rfl⟩)
    go_ret
    exact ⟨by rw [hno.out]; rfl, (by repeat' (first | assumption | exact Below.refl _ _ | (refine Below.alloc ?_ (by first | exact Nat.le_refl _ | omega | (simp; done) | (simp; omega)) _) | refine Below.drew ?_ | (refine below_drewN ?_ _) | (refine Below.setCell ?_ (by first | exact Nat.le_refl _ | omega | (simp; done) | (simp; omega)) _)))⟩
  have r3 : decide (x.room ≤ 100000) = true := decide_eq_true (by omega)
  go_enter Try.func38, Try.ntmps38
  go_wp2_with (go_at_call 41; refine (within_c _ _ _ _).mono ?_; rintro e w1 ⟨rfl, rfl⟩)
  go_loopw [3, 4, 18] (fun _ _ i wr => ∃ k : Nat, k ≤ x.files.length ∧ i = .int .i64 k ∧ Hid (∀ j, j < k → fOk x.files j = true) ∧ Below w.heap.size w wr ∧ w.heap.size < wr.heap.size ∧ wr.cell? ⟨w.heap.size, 0, none⟩ = some (.slice A x.files.length c) ∧ wr.cell? ⟨w.heap.size, 1, none⟩ = some (.int .i64 x.room)) (fun _ _ i _ => x.files.length - (intOf i).toNat)
  case atStart => exact ⟨0, by omega, rfl, fun j hj => by omega, (by repeat' (first | assumption | exact Below.refl _ _ | (refine Below.alloc ?_ (by first | exact Nat.le_refl _ | omega | (simp; done) | (simp; omega)) _) | refine Below.drew ?_ | (refine below_drewN ?_ _) | (refine Below.setCell ?_ (by first | exact Nat.le_refl _ | omega | (simp; done) | (simp; omega)) _))), by simp, by simp, by simp⟩
  case round =>
    obtain ⟨k, hk, rfl, HP, hb, hz, b0, b1⟩ := hrel
    by_cases hlt : k < x.files.length
    · obtain ⟨b, o, rfl, ha, q0, q1, q2⟩ := rdStored (H.below hb) hlt
      have hk0 : (0 : Int) ≤ (k : Int) := Int.natCast_nonneg _
      have hk1 : (k : Int) < (x.files.length : Int) := by omega
      have hbt := big_text hB' hlt
      have hfo : Hid (fOk x.files k = _) := fOk_eq hlt
      have hno : Hid (fOk x.files k = false → driveOk x = false) := fun h => filesOk_false hlt h rfl
      have hyes : Hid (fOk x.files k = true → Hid (∀ j, j < k + 1 → fOk x.files j = true)) := fun h j hj => by
        by_cases e : j = k
        · subst e; exact h
        · exact HP.out j (by omega)
      generalize hf : x.files[k] = f at *
      have Hf := Lib.hid hf
      clear hf
      by_cases c1 : nameOk f.name 80 = true
      · by_cases k0 : k = 0
        · have e0 : Hid (fOk x.files k = (nameOk f.name 80 && true && decide (f.text.size ≤ 20000) && decide (0 ≤ f.synced) && decide (f.synced ≤ f.text.size))) := by
            show _ = _
            rw [hfo.out, decide_eq_true k0]; simp
          have k00 : decide (0 < k) = false := decide_eq_false (by omega)
          clear hfo k0
          have hfo := e0
          clear e0
          by_cases c3 : (f.text.size : Int) ≤ 20000
          case neg =>
            have d3 : decide ((20000 : Int) < (f.text.size : Int)) = true := decide_eq_true (by omega)
            go_wp2_with fail
            go_quiet (((first | (go_at_call 68; exact quietR (nameRight_c _ (by omega) _)) | (go_at_call 36; exact quietR (isLong_c _ _)) | (go_at_call 42; exact quietR (long_c _ _)) | (go_at_call 41; exact quietR (within_c _ _ _ _)))))
            go_wp2
            go_ret
            exact ⟨by rw [hno.out (by rw [hfo.out]; simp; omega)]; rfl, by first | exact below_drewN (by repeat' (first | assumption | exact Below.refl _ _ | (refine Below.alloc ?_ (by first | exact Nat.le_refl _ | omega | (simp; done) | (simp; omega)) _) | refine Below.drew ?_ | (refine below_drewN ?_ _) | (refine Below.setCell ?_ (by first | exact Nat.le_refl _ | omega | (simp; done) | (simp; omega)) _))) _ | exact (by repeat' (first | assumption | exact Below.refl _ _ | (refine Below.alloc ?_ (by first | exact Nat.le_refl _ | omega | (simp; done) | (simp; omega)) _) | refine Below.drew ?_ | (refine below_drewN ?_ _) | (refine Below.setCell ?_ (by first | exact Nat.le_refl _ | omega | (simp; done) | (simp; omega)) _)))⟩
          have d3 : decide ((20000 : Int) < (f.text.size : Int)) = false := decide_eq_false (by omega)
          by_cases c4 : 0 ≤ f.synced
          case neg =>
            have d4 : decide (0 ≤ f.synced) = false := decide_eq_false (by omega)
            go_wp2_with fail
            go_quiet (((first | (go_at_call 68; exact quietR (nameRight_c _ (by omega) _)) | (go_at_call 36; exact quietR (isLong_c _ _)) | (go_at_call 42; exact quietR (long_c _ _)) | (go_at_call 41; exact quietR (within_c _ _ _ _)))))
            go_wp2
            go_ret
            exact ⟨by rw [hno.out (by rw [hfo.out]; simp; omega)]; rfl, by first | exact below_drewN (by repeat' (first | assumption | exact Below.refl _ _ | (refine Below.alloc ?_ (by first | exact Nat.le_refl _ | omega | (simp; done) | (simp; omega)) _) | refine Below.drew ?_ | (refine below_drewN ?_ _) | (refine Below.setCell ?_ (by first | exact Nat.le_refl _ | omega | (simp; done) | (simp; omega)) _))) _ | exact (by repeat' (first | assumption | exact Below.refl _ _ | (refine Below.alloc ?_ (by first | exact Nat.le_refl _ | omega | (simp; done) | (simp; omega)) _) | refine Below.drew ?_ | (refine below_drewN ?_ _) | (refine Below.setCell ?_ (by first | exact Nat.le_refl _ | omega | (simp; done) | (simp; omega)) _)))⟩
          have d4 : decide (0 ≤ f.synced) = true := decide_eq_true (by omega)
          by_cases c5 : f.synced ≤ f.text.size
          case neg =>
            have d5 : decide (f.synced ≤ (f.text.size : Int)) = false := decide_eq_false (by omega)
            go_wp2_with fail
            go_quiet (((first | (go_at_call 68; exact quietR (nameRight_c _ (by omega) _)) | (go_at_call 36; exact quietR (isLong_c _ _)) | (go_at_call 42; exact quietR (long_c _ _)) | (go_at_call 41; exact quietR (within_c _ _ _ _)))))
            go_wp2
            go_ret
            exact ⟨by rw [hno.out (by rw [hfo.out]; simp; omega)]; rfl, by first | exact below_drewN (by repeat' (first | assumption | exact Below.refl _ _ | (refine Below.alloc ?_ (by first | exact Nat.le_refl _ | omega | (simp; done) | (simp; omega)) _) | refine Below.drew ?_ | (refine below_drewN ?_ _) | (refine Below.setCell ?_ (by first | exact Nat.le_refl _ | omega | (simp; done) | (simp; omega)) _))) _ | exact (by repeat' (first | assumption | exact Below.refl _ _ | (refine Below.alloc ?_ (by first | exact Nat.le_refl _ | omega | (simp; done) | (simp; omega)) _) | refine Below.drew ?_ | (refine below_drewN ?_ _) | (refine Below.setCell ?_ (by first | exact Nat.le_refl _ | omega | (simp; done) | (simp; omega)) _)))⟩
          have d5 : decide (f.synced ≤ (f.text.size : Int)) = true := decide_eq_true (by omega)
          have hall := hyes.out (by rw [hfo.out, c1]; simp [bLt, c1] <;> omega)
          go_wp2_with fail
          go_quiet (((first | (go_at_call 68; exact quietR (nameRight_c _ (by omega) _)) | (go_at_call 36; exact quietR (isLong_c _ _)) | (go_at_call 42; exact quietR (long_c _ _)) | (go_at_call 41; exact quietR (within_c _ _ _ _)))))
          go_wp2
          go_roundw
          case rel => exact ⟨k + 1, by omega, by go_num, hall, by first | exact below_drewN (by repeat' (first | assumption | exact Below.refl _ _ | (refine Below.alloc ?_ (by first | exact Nat.le_refl _ | omega | (simp; done) | (simp; omega)) _) | refine Below.drew ?_ | (refine below_drewN ?_ _) | (refine Below.setCell ?_ (by first | exact Nat.le_refl _ | omega | (simp; done) | (simp; omega)) _))) _ | exact (by repeat' (first | assumption | exact Below.refl _ _ | (refine Below.alloc ?_ (by first | exact Nat.le_refl _ | omega | (simp; done) | (simp; omega)) _) | refine Below.drew ?_ | (refine below_drewN ?_ _) | (refine Below.setCell ?_ (by first | exact Nat.le_refl _ | omega | (simp; done) | (simp; omega)) _))), by simp; omega, by go_simp, by go_simp⟩
          case measure => simp [intOf]; omega
        · have k00 : decide (0 < k) = true := decide_eq_true (by omega)
          have k01 : (0 : Int) ≤ (k : Int) - 1 := by omega
          have k02 : (k : Int) - 1 < (x.files.length : Int) := by omega
          obtain ⟨b', o', eb, ha', p0, p1, p2⟩ := rdStored (H.below hb) (show k - 1 < x.files.length by omega)
          cases eb
          have e0 : Hid (fOk x.files k = (nameOk f.name 80 && bLt (x.files[k - 1]'(by omega)).name f.name && decide (f.text.size ≤ 20000) && decide (0 ≤ f.synced) && decide (f.synced ≤ f.text.size))) := by
            show _ = _
            rw [hfo.out]; simp [k0]
          clear hfo
          have hfo := e0
          clear e0 p1 p2
          generalize x.files[k - 1] = p at *
          by_cases c2 : Op.bytesLess p.name.toList f.name.toList = true
          case neg =>
            have c2' : Op.bytesLess p.name.toList f.name.toList = false := by simpa using c2
            clear c2
            go_wp2_with fail
            go_quiet ((first | (go_at_call 68; exact quietR (nameRight_c _ (by omega) _)) | (go_at_call 36; exact quietR (isLong_c _ _)) | (go_at_call 42; exact quietR (long_c _ _)) | (go_at_call 41; exact quietR (within_c _ _ _ _))))
            go_wp2
            go_ret
            exact ⟨by rw [hno.out (by rw [hfo.out]; simp [bLt, c2'])]; rfl, by first | exact below_drewN (by repeat' (first | assumption | exact Below.refl _ _ | (refine Below.alloc ?_ (by first | exact Nat.le_refl _ | omega | (simp; done) | (simp; omega)) _) | refine Below.drew ?_ | (refine below_drewN ?_ _) | (refine Below.setCell ?_ (by first | exact Nat.le_refl _ | omega | (simp; done) | (simp; omega)) _))) _ | exact (by repeat' (first | assumption | exact Below.refl _ _ | (refine Below.alloc ?_ (by first | exact Nat.le_refl _ | omega | (simp; done) | (simp; omega)) _) | refine Below.drew ?_ | (refine below_drewN ?_ _) | (refine Below.setCell ?_ (by first | exact Nat.le_refl _ | omega | (simp; done) | (simp; omega)) _)))⟩
          by_cases c3 : (f.text.size : Int) ≤ 20000
          case neg =>
            have d3 : decide ((20000 : Int) < (f.text.size : Int)) = true := decide_eq_true (by omega)
            go_wp2_with fail
            go_quiet (((first | (go_at_call 68; exact quietR (nameRight_c _ (by omega) _)) | (go_at_call 36; exact quietR (isLong_c _ _)) | (go_at_call 42; exact quietR (long_c _ _)) | (go_at_call 41; exact quietR (within_c _ _ _ _)))))
            go_wp2
            go_ret
            exact ⟨by rw [hno.out (by rw [hfo.out]; simp; omega)]; rfl, by first | exact below_drewN (by repeat' (first | assumption | exact Below.refl _ _ | (refine Below.alloc ?_ (by first | exact Nat.le_refl _ | omega | (simp; done) | (simp; omega)) _) | refine Below.drew ?_ | (refine below_drewN ?_ _) | (refine Below.setCell ?_ (by first | exact Nat.le_refl _ | omega | (simp; done) | (simp; omega)) _))) _ | exact (by repeat' (first | assumption | exact Below.refl _ _ | (refine Below.alloc ?_ (by first | exact Nat.le_refl _ | omega | (simp; done) | (simp; omega)) _) | refine Below.drew ?_ | (refine below_drewN ?_ _) | (refine Below.setCell ?_ (by first | exact Nat.le_refl _ | omega | (simp; done) | (simp; omega)) _)))⟩
          have d3 : decide ((20000 : Int) < (f.text.size : Int)) = false := decide_eq_false (by omega)
          by_cases c4 : 0 ≤ f.synced
          case neg =>
            have d4 : decide (0 ≤ f.synced) = false := decide_eq_false (by omega)
            go_wp2_with fail
            go_quiet (((first | (go_at_call 68; exact quietR (nameRight_c _ (by omega) _)) | (go_at_call 36; exact quietR (isLong_c _ _)) | (go_at_call 42; exact quietR (long_c _ _)) | (go_at_call 41; exact quietR (within_c _ _ _ _)))))
            go_wp2
            go_ret
            exact ⟨by rw [hno.out (by rw [hfo.out]; simp; omega)]; rfl, by first | exact below_drewN (by repeat' (first | assumption | exact Below.refl _ _ | (refine Below.alloc ?_ (by first | exact Nat.le_refl _ | omega | (simp; done) | (simp; omega)) _) | refine Below.drew ?_ | (refine below_drewN ?_ _) | (refine Below.setCell ?_ (by first | exact Nat.le_refl _ | omega | (simp; done) | (simp; omega)) _))) _ | exact (by repeat' (first | assumption | exact Below.refl _ _ | (refine Below.alloc ?_ (by first | exact Nat.le_refl _ | omega | (simp; done) | (simp; omega)) _) | refine Below.drew ?_ | (refine below_drewN ?_ _) | (refine Below.setCell ?_ (by first | exact Nat.le_refl _ | omega | (simp; done) | (simp; omega)) _)))⟩
          have d4 : decide (0 ≤ f.synced) = true := decide_eq_true (by omega)
          by_cases c5 : f.synced ≤ f.text.size
          case neg =>
            have d5 : decide (f.synced ≤ (f.text.size : Int)) = false := decide_eq_false (by omega)
            go_wp2_with fail
            go_quiet (((first | (go_at_call 68; exact quietR (nameRight_c _ (by omega) _)) | (go_at_call 36; exact quietR (isLong_c _ _)) | (go_at_call 42; exact quietR (long_c _ _)) | (go_at_call 41; exact quietR (within_c _ _ _ _)))))
            go_wp2
            go_ret
            exact ⟨by rw [hno.out (by rw [hfo.out]; simp; omega)]; rfl, by first | exact below_drewN (by repeat' (first | assumption | exact Below.refl _ _ | (refine Below.alloc ?_ (by first | exact Nat.le_refl _ | omega | (simp; done) | (simp; omega)) _) | refine Below.drew ?_ | (refine below_drewN ?_ _) | (refine Below.setCell ?_ (by first | exact Nat.le_refl _ | omega | (simp; done) | (simp; omega)) _))) _ | exact (by repeat' (first | assumption | exact Below.refl _ _ | (refine Below.alloc ?_ (by first | exact Nat.le_refl _ | omega | (simp; done) | (simp; omega)) _) | refine Below.drew ?_ | (refine below_drewN ?_ _) | (refine Below.setCell ?_ (by first | exact Nat.le_refl _ | omega | (simp; done) | (simp; omega)) _)))⟩
          have d5 : decide (f.synced ≤ (f.text.size : Int)) = true := decide_eq_true (by omega)
          have hall := hyes.out (by rw [hfo.out, c1]; simp [bLt, c1, c2] <;> omega)
          go_wp2_with fail
          go_quiet (((first | (go_at_call 68; exact quietR (nameRight_c _ (by omega) _)) | (go_at_call 36; exact quietR (isLong_c _ _)) | (go_at_call 42; exact quietR (long_c _ _)) | (go_at_call 41; exact quietR (within_c _ _ _ _)))))
          go_wp2
          go_roundw
          case rel => exact ⟨k + 1, by omega, by go_num, hall, by first | exact below_drewN (by repeat' (first | assumption | exact Below.refl _ _ | (refine Below.alloc ?_ (by first | exact Nat.le_refl _ | omega | (simp; done) | (simp; omega)) _) | refine Below.drew ?_ | (refine below_drewN ?_ _) | (refine Below.setCell ?_ (by first | exact Nat.le_refl _ | omega | (simp; done) | (simp; omega)) _))) _ | exact (by repeat' (first | assumption | exact Below.refl _ _ | (refine Below.alloc ?_ (by first | exact Nat.le_refl _ | omega | (simp; done) | (simp; omega)) _) | refine Below.drew ?_ | (refine below_drewN ?_ _) | (refine Below.setCell ?_ (by first | exact Nat.le_refl _ | omega | (simp; done) | (simp; omega)) _))), by simp; omega, by go_simp, by go_simp⟩
          case measure => simp [intOf]; omega
      · have c1' : nameOk f.name 80 = false := by simpa using c1
        clear c1
        go_wp2_with fail
        go_quiet ((first | (go_at_call 68; exact quietR (nameRight_c _ (by omega) _)) | (go_at_call 36; exact quietR (isLong_c _ _)) | (go_at_call 42; exact quietR (long_c _ _)) | (go_at_call 41; exact quietR (within_c _ _ _ _))))
        go_wp2
        go_ret
        exact ⟨by rw [hno.out (by rw [hfo.out, c1']; rfl)]; rfl, below_drewN (by repeat' (first | assumption | exact Below.refl _ _ | (refine Below.alloc ?_ (by first | exact Nat.le_refl _ | omega | (simp; done) | (simp; omega)) _) | refine Below.drew ?_ | (refine below_drewN ?_ _) | (refine Below.setCell ?_ (by first | exact Nat.le_refl _ | omega | (simp; done) | (simp; omega)) _))) _⟩
    · obtain rfl : k = x.files.length := by omega
      have hfin : Hid (driveOk x = decide (usedB x.files ≤ x.room)) := by
        show _ = _
        have : filesOk x.files = true := range_all_true (fun j hj => HP.out j hj)
        unfold driveOk
        rw [this]; simp; omega
      have hbr : Below wr.heap.size wr wr := Below.refl _ _
      go_wp2_with fail
      go_region_held3 (fun w' => Below w.heap.size w w' ∧ Below wr.heap.size wr w' ∧ w'.cell? ⟨w.heap.size, 0, none⟩ = some (Value.slice A x.files.length c) ∧ w'.cell? ⟨w.heap.size, 1, none⟩ = some (Value.int .i64 x.room))
        ((go_split_ands; (repeat' apply And.intro) <;> first | go_keep | exact Below.refl _ _ | exact Below.drew (by assumption) | exact Below.drew (Below.refl _ _) | exact Below.step (by assumption) hb1 | exact cell_later hb1 (by assumption)))
        ((go_at_call 69; refine (used_c x.files _ _ _ _ (H.below (by go_split_ands; assumption)) (by omega)).mono ?_; rintro e w1 ⟨rfl, hb1⟩))
      go_split_ands
      go_wp2
      go_ret
      exact ⟨by rw [hfin.out]; first | done | rfl, by assumption⟩
end Go.Proofs.Ytdgnpkffdiopaaa
