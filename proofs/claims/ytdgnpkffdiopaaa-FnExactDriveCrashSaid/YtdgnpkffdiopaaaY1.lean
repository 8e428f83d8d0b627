/- The law of DriveCrash: what the law's function does. -/
import Derived.Test.YtdgnpkffdiopaaaW7
import Derived.Test.YtdgnpkffdiopaaaLm
import Derived.Deep.CutRange
namespace Go.Proofs.Ytdgnpkffdiopaaa
open Go.RowKit
set_option linter.unusedSimpArgs false
set_option linter.unusedVariables false
theorem cnL_len {α : Type} {cn : α → Int} {K : Int} (h : ∀ x, cn x ≤ K) : ∀ xs : List α, cnL cn xs ≤ K * xs.length
  | [] => by simp [cnL]
  | x :: xs => by
    have h1 := h x
    have h2 := cnL_len h xs
    simp only [cnL, List.length_cons, Int.natCast_add, Int.mul_add]
    omega
theorem driveCrash_len (keep : List Int) (x : DDrive) : (driveCrash keep x).files.length ≤ x.files.length := by
  unfold driveCrash
  split
  · simp
  · split
    · rw [crash_len]; exact Nat.le_refl _
    · exact Nat.le_refl _
set_option maxRecDepth 100000 in
set_option maxHeartbeats 4000000 in
theorem lawDriveCrash_c (x : DDrive) (keep : List Int) (A : Option Addr) (c : Nat) (A2 : Option Addr) (c2 : Nat) (w : World) (H : Rd kStored w A c x.files) (H2 : Rd kInt w A2 c2 keep) (ok : okDrive x) :
    Calls Try.prog 4 #[.agg #[.slice A x.files.length c, .int .i64 x.room], .slice A2 keep.length c2] w fun e w' => e = .returned (.bool true) ∧ Below w.heap.size w w' := by
  have hk1 := H2.1
  have hk2 := H2.2.1
  unfold maxLen at hk2
  by_cases c0 : (1048576 : Int) < keep.length
  · have d0 : decide ((1048576 : Int) < keep.length) = true := decide_eq_true c0
    go_enter Try.func4, Try.ntmps4
    go_wp2_with fail
    go_ret
    exact ⟨rfl, (by repeat' (first | assumption | exact Below.refl _ _ | (refine Below.alloc ?_ (by first | exact Nat.le_refl _ | omega | (simp; done) | (simp; omega)) _) | refine Below.drew ?_ | (refine below_drewN ?_ _) | (refine Below.setCell ?_ (by first | exact Nat.le_refl _ | omega | (simp; done) | (simp; omega)) _)))⟩
  have d0 : decide ((1048576 : Int) < keep.length) = false := decide_eq_false c0
  have n0 := bDrive_nonneg x
  have e1 : szR (bDrive x) 1048576 = if bDrive x ≤ 1048576 then 1048576 - bDrive x else -1 := rfl
  by_cases c1 : bDrive x ≤ 1048576
  case neg =>
    rw [if_neg c1] at e1
    go_enter Try.func4, Try.ntmps4
    go_wp2_with (go_at_call 7; refine (szDrive_c x A c 1048576 _ (H.below (by repeat' (first | assumption | exact Below.refl _ _ | (refine Below.alloc ?_ (by first | exact Nat.le_refl _ | omega | (simp; done) | (simp; omega)) _) | refine Below.drew ?_ | (refine below_drewN ?_ _) | (refine Below.setCell ?_ (by first | exact Nat.le_refl _ | omega | (simp; done) | (simp; omega)) _)))) ok (by omega) (by omega)).mono ?_; rintro e w1 ⟨rfl, hb1⟩; rw [e1]; have hB1 : Below w.heap.size w w1 := Below.step (by repeat' (first | assumption | exact Below.refl _ _ | (refine Below.alloc ?_ (by first | exact Nat.le_refl _ | omega | (simp; done) | (simp; omega)) _) | refine Below.drew ?_ | (refine below_drewN ?_ _) | (refine Below.setCell ?_ (by first | exact Nat.le_refl _ | omega | (simp; done) | (simp; omega)) _))) hb1; clear hb1)
    go_ret
    exact ⟨rfl, (by repeat' (first | assumption | exact Below.refl _ _ | (refine Below.alloc ?_ (by first | exact Nat.le_refl _ | omega | (simp; done) | (simp; omega)) _) | refine Below.drew ?_ | (refine below_drewN ?_ _) | (refine Below.setCell ?_ (by first | exact Nat.le_refl _ | omega | (simp; done) | (simp; omega)) _)))⟩
  rw [if_pos c1] at e1
  have nc1 := cnL_nonneg cnStored_nonneg x.files
  have nc2 := cnL_nonneg cn1_nonneg keep
  have nc3 := cnL_nonneg cnStored_nonneg (driveCrash keep x).files
  have hq1 : 1 + cnL cnStored x.files + cnL cn1 keep ≤ 4611686018427387904 := by have h1 := cnL_len (cn := cnStored) (K := 3) (fun _ => Int.le_refl _) x.files; have h2 := cnL_len (cn := cn1) (K := 1) (fun _ => Int.le_refl _) keep; have h3 := bL_len bStored_nonneg x.files; have h4 : bL bStored x.files ≤ 1048576 := c1; omega
  have hq2 : 1 + cnL cnStored (driveCrash keep x).files ≤ 4611686018427387904 := by have h1 := cnL_len (cn := cnStored) (K := 3) (fun _ => Int.le_refl _) (driveCrash keep x).files; have h3 := bL_len bStored_nonneg x.files; have h4 : bL bStored x.files ≤ 1048576 := c1; have h5 := driveCrash_len keep x; omega
  have hB40 : bDrive x ≤ 1099511627776 := by omega
  have hl1 : (keep.length : Int) ≤ 1048576 := by omega
  go_enter Try.func4, Try.ntmps4
  go_wp2_with fail
  refine (szDrive_c x A c 1048576 _ (H.below (by repeat' (first | assumption | exact Below.refl _ _ | (refine Below.alloc ?_ (by first | exact Nat.le_refl _ | omega | (simp; done) | (simp; omega)) _) | refine Below.drew ?_ | (refine below_drewN ?_ _) | (refine Below.setCell ?_ (by first | exact Nat.le_refl _ | omega | (simp; done) | (simp; omega)) _)))) ok (by omega) (by omega)).mono ?_
  rintro e w1 ⟨rfl, hb1⟩
  rw [e1]
  have a0 : w1.cell? ⟨w.heap.size, 0, none⟩ = some (.slice A x.files.length c) := (cell_later hb1 (by first | assumption | (simp; done) | exact Go.Lib.cell?_alloc_some _ (by assumption)))
  have a1 : w1.cell? ⟨w.heap.size, 1, none⟩ = some (.int .i64 x.room) := (cell_later hb1 (by first | assumption | (simp; done) | exact Go.Lib.cell?_alloc_some _ (by assumption)))
  have hB1 : Below w.heap.size w w1 := Below.step (by repeat' (first | assumption | exact Below.refl _ _ | (refine Below.alloc ?_ (by first | exact Nat.le_refl _ | omega | (simp; done) | (simp; omega)) _) | refine Below.drew ?_ | (refine below_drewN ?_ _) | (refine Below.setCell ?_ (by first | exact Nat.le_refl _ | omega | (simp; done) | (simp; omega)) _))) hb1
  have z1 : w.heap.size < w1.heap.size := World.block_lt_of_cell? _ _ a0
  clear hb1 e1
  have d1 : decide (1048576 - bDrive x < 0) = false := decide_eq_false (by omega)
  go_wp2_with fail
  refine (toDrive_c x A c _ (H.below (by repeat' (first | assumption | exact Below.refl _ _ | (refine Below.alloc ?_ (by first | exact Nat.le_refl _ | omega | (simp; done) | (simp; omega)) _) | refine Below.drew ?_ | (refine below_drewN ?_ _) | (refine Below.setCell ?_ (by first | exact Nat.le_refl _ | omega | (simp; done) | (simp; omega)) _)))) c1).mono ?_
  rintro e w2 ⟨_, F2, rfl, O2, L2, hb2⟩
  obtain ⟨A3, c3, rfl⟩ := O2.slice
  have z2 := hb2.size
  have hB2 : Below w.heap.size w w2 := Below.step (by repeat' (first | assumption | exact Below.refl _ _ | (refine Below.alloc ?_ (by first | exact Nat.le_refl _ | omega | (simp; done) | (simp; omega)) _) | refine Below.drew ?_ | (refine below_drewN ?_ _) | (refine Below.setCell ?_ (by first | exact Nat.le_refl _ | omega | (simp; done) | (simp; omega)) _))) hb2
  replace a0 : w2.cell? ⟨w.heap.size, 0, none⟩ = some (.slice A x.files.length c) := (cell_later hb2 (by first | assumption | (simp; done) | exact Go.Lib.cell?_alloc_some _ (by assumption)))
  replace a1 : w2.cell? ⟨w.heap.size, 1, none⟩ = some (.int .i64 x.room) := (cell_later hb2 (by first | assumption | (simp; done) | exact Go.Lib.cell?_alloc_some _ (by assumption)))
  clear hb2
  go_wp2_with fail
  refine (toInt64S_c keep A2 c2 _ (H2.below (by repeat' (first | assumption | exact Below.refl _ _ | (refine Below.alloc ?_ (by first | exact Nat.le_refl _ | omega | (simp; done) | (simp; omega)) _) | refine Below.drew ?_ | (refine below_drewN ?_ _) | (refine Below.setCell ?_ (by first | exact Nat.le_refl _ | omega | (simp; done) | (simp; omega)) _)))) hl1).mono ?_
  rintro e w3 ⟨_, F3, rfl, O3, L3, hb3⟩
  obtain ⟨A4, c4, rfl⟩ := O3.slice
  have z3 := hb3.size
  have hB3 : Below w.heap.size w w3 := Below.step (by repeat' (first | assumption | exact Below.refl _ _ | (refine Below.alloc ?_ (by first | exact Nat.le_refl _ | omega | (simp; done) | (simp; omega)) _) | refine Below.drew ?_ | (refine below_drewN ?_ _) | (refine Below.setCell ?_ (by first | exact Nat.le_refl _ | omega | (simp; done) | (simp; omega)) _))) hb3
  replace a0 : w3.cell? ⟨w.heap.size, 0, none⟩ = some (.slice A x.files.length c) := (cell_later hb3 (by first | assumption | (simp; done) | exact Go.Lib.cell?_alloc_some _ (by assumption)))
  replace a1 : w3.cell? ⟨w.heap.size, 1, none⟩ = some (.int .i64 x.room) := (cell_later hb3 (by first | assumption | (simp; done) | exact Go.Lib.cell?_alloc_some _ (by assumption)))
  replace O2 := Ow.below hb3 O2
  clear hb3
  go_wp2_with fail
  refine (sDriveCrash_c x keep _ _ _ _ _ (O2.rd.2.below (by repeat' (first | assumption | exact Below.refl _ _ | (refine Below.alloc ?_ (by first | exact Nat.le_refl _ | omega | (simp; done) | (simp; omega)) _) | refine Below.drew ?_ | (refine below_drewN ?_ _) | (refine Below.setCell ?_ (by first | exact Nat.le_refl _ | omega | (simp; done) | (simp; omega)) _)))) (O3.rd.2.below (by repeat' (first | assumption | exact Below.refl _ _ | (refine Below.alloc ?_ (by first | exact Nat.le_refl _ | omega | (simp; done) | (simp; omega)) _) | refine Below.drew ?_ | (refine below_drewN ?_ _) | (refine Below.setCell ?_ (by first | exact Nat.le_refl _ | omega | (simp; done) | (simp; omega)) _)))) hB40).mono ?_
  rintro e w4 ⟨A5, c5, F5, rfl, O5, L5, hb4⟩
  have z4 := hb4.size
  have hB4 : Below w.heap.size w w4 := Below.step (by repeat' (first | assumption | exact Below.refl _ _ | (refine Below.alloc ?_ (by first | exact Nat.le_refl _ | omega | (simp; done) | (simp; omega)) _) | refine Below.drew ?_ | (refine below_drewN ?_ _) | (refine Below.setCell ?_ (by first | exact Nat.le_refl _ | omega | (simp; done) | (simp; omega)) _))) hb4
  replace a0 : w4.cell? ⟨w.heap.size, 0, none⟩ = some (.slice A x.files.length c) := (cell_later hb4 (by first | assumption | (simp; done) | exact Go.Lib.cell?_alloc_some _ (by assumption)))
  replace a1 : w4.cell? ⟨w.heap.size, 1, none⟩ = some (.int .i64 x.room) := (cell_later hb4 (by first | assumption | (simp; done) | exact Go.Lib.cell?_alloc_some _ (by assumption)))
  clear hb4 O2 O3 L2 L3
  have I5 : ∀ b ∈ F5, w3.heap.size ≤ b ∧ b < w4.heap.size := fun b hb => ⟨by have h := L5 b hb; (try simp at h); omega, O5.lt b hb⟩
  have u4 : w.heap.size < w4.heap.size := World.block_lt_of_cell? _ _ a0
  go_wp2_with fail
  refine (toDrive_c x A c _ (H.below (by repeat' (first | assumption | exact Below.refl _ _ | (refine Below.alloc ?_ (by first | exact Nat.le_refl _ | omega | (simp; done) | (simp; omega)) _) | refine Below.drew ?_ | (refine below_drewN ?_ _) | (refine Below.setCell ?_ (by first | exact Nat.le_refl _ | omega | (simp; done) | (simp; omega)) _)))) c1).mono ?_
  rintro e w5 ⟨_, F6, rfl, O6, L6, hb5⟩
  obtain ⟨A6, c6, rfl⟩ := O6.slice
  have I6 : ∀ b ∈ F6, w4.heap.size < b ∧ b < w5.heap.size := fun b hb => ⟨by have h := L6 b hb; (try simp at h); omega, O6.lt b hb⟩
  have z5 := hb5.size
  (try simp at z5)
  have hB5 : Below w.heap.size w w5 := Below.step (by repeat' (first | assumption | exact Below.refl _ _ | (refine Below.alloc ?_ (by first | exact Nat.le_refl _ | omega | (simp; done) | (simp; omega)) _) | refine Below.drew ?_ | (refine below_drewN ?_ _) | (refine Below.setCell ?_ (by first | exact Nat.le_refl _ | omega | (simp; done) | (simp; omega)) _))) hb5
  replace a0 : w5.cell? ⟨w.heap.size, 0, none⟩ = some (.slice A x.files.length c) := (cell_later hb5 (by first | assumption | (simp; done) | exact Go.Lib.cell?_alloc_some _ (by assumption)))
  replace a1 : w5.cell? ⟨w.heap.size, 1, none⟩ = some (.int .i64 x.room) := (cell_later hb5 (by first | assumption | (simp; done) | exact Go.Lib.cell?_alloc_some _ (by assumption)))
  have p0 : w5.cell? ⟨w4.heap.size, 0, none⟩ = some (.slice A5 (driveCrash keep x).files.length c5) := (cell_later hb5 (by first | assumption | (simp; done) | exact Go.Lib.cell?_alloc_some _ (by assumption)))
  have p1 : w5.cell? ⟨w4.heap.size, 1, none⟩ = some (.int .i64 (driveCrash keep x).room) := (cell_later hb5 (by first | assumption | (simp; done) | exact Go.Lib.cell?_alloc_some _ (by assumption)))
  have u5 : w.heap.size < w5.heap.size := World.block_lt_of_cell? _ _ a0
  have up5 : w4.heap.size < w5.heap.size := World.block_lt_of_cell? _ _ p0
  replace O5 : Ow kStored 62 w5 F5 (.slice A5 (driveCrash keep x).files.length c5) (driveCrash keep x).files := Ow.below hb5 (by repeat' (first | assumption | (refine Ow.setCell_ne ?_ (by first | assumption | (refine ne_of_new (by assumption) ?_; first | omega | (simp; done) | (simp; omega)) | (refine ne_of_old (by assumption) ?_; first | omega | (simp; done) | (simp; omega))) _) | refine Ow.alloc ?_ _ | refine Ow.drew ?_ | refine Ow.drewN ?_ _))
  clear hb5
  go_wp2_with fail
  refine (toInt64S_c keep A2 c2 _ (H2.below (by repeat' (first | assumption | exact Below.refl _ _ | (refine Below.alloc ?_ (by first | exact Nat.le_refl _ | omega | (simp; done) | (simp; omega)) _) | refine Below.drew ?_ | (refine below_drewN ?_ _) | (refine Below.setCell ?_ (by first | exact Nat.le_refl _ | omega | (simp; done) | (simp; omega)) _)))) hl1).mono ?_
  rintro e w6 ⟨_, F7, rfl, O7, L7, hb6⟩
  obtain ⟨A7, c7, rfl⟩ := O7.slice
  have I7 : ∀ b ∈ F7, w5.heap.size < b ∧ b < w6.heap.size := fun b hb => ⟨by have h := L7 b hb; (try simp at h); omega, O7.lt b hb⟩
  have z6 := hb6.size
  (try simp at z6)
  have hB6 : Below w.heap.size w w6 := Below.step (by repeat' (first | assumption | exact Below.refl _ _ | (refine Below.alloc ?_ (by first | exact Nat.le_refl _ | omega | (simp; done) | (simp; omega)) _) | refine Below.drew ?_ | (refine below_drewN ?_ _) | (refine Below.setCell ?_ (by first | exact Nat.le_refl _ | omega | (simp; done) | (simp; omega)) _))) hb6
  replace a0 : w6.cell? ⟨w.heap.size, 0, none⟩ = some (.slice A x.files.length c) := (cell_later hb6 (by first | assumption | (simp; done) | exact Go.Lib.cell?_alloc_some _ (by assumption)))
  replace a1 : w6.cell? ⟨w.heap.size, 1, none⟩ = some (.int .i64 x.room) := (cell_later hb6 (by first | assumption | (simp; done) | exact Go.Lib.cell?_alloc_some _ (by assumption)))
  replace p0 : w6.cell? ⟨w4.heap.size, 0, none⟩ = some (.slice A5 (driveCrash keep x).files.length c5) := (cell_later hb6 (by first | assumption | (simp; done) | exact Go.Lib.cell?_alloc_some _ (by assumption)))
  replace p1 : w6.cell? ⟨w4.heap.size, 1, none⟩ = some (.int .i64 (driveCrash keep x).room) := (cell_later hb6 (by first | assumption | (simp; done) | exact Go.Lib.cell?_alloc_some _ (by assumption)))
  have q0 : w6.cell? ⟨w5.heap.size, 0, none⟩ = some (.slice A6 x.files.length c6) := (cell_later hb6 (by first | assumption | (simp; done) | exact Go.Lib.cell?_alloc_some _ (by assumption)))
  have q1 : w6.cell? ⟨w5.heap.size, 1, none⟩ = some (.int .i64 x.room) := (cell_later hb6 (by first | assumption | (simp; done) | exact Go.Lib.cell?_alloc_some _ (by assumption)))
  have u6 : w.heap.size < w6.heap.size := World.block_lt_of_cell? _ _ a0
  have up6 : w4.heap.size < w6.heap.size := World.block_lt_of_cell? _ _ p0
  have uq6 : w5.heap.size < w6.heap.size := World.block_lt_of_cell? _ _ q0
  replace O5 : Ow kStored 62 w6 F5 (.slice A5 (driveCrash keep x).files.length c5) (driveCrash keep x).files := Ow.below hb6 (by repeat' (first | assumption | (refine Ow.setCell_ne ?_ (by first | assumption | (refine ne_of_new (by assumption) ?_; first | omega | (simp; done) | (simp; omega)) | (refine ne_of_old (by assumption) ?_; first | omega | (simp; done) | (simp; omega))) _) | refine Ow.alloc ?_ _ | refine Ow.drew ?_ | refine Ow.drewN ?_ _))
  replace O6 : Ow kStored 62 w6 F6 (.slice A6 x.files.length c6) x.files := Ow.below hb6 (by repeat' (first | assumption | (refine Ow.setCell_ne ?_ (by first | assumption | (refine ne_of_new (by assumption) ?_; first | omega | (simp; done) | (simp; omega)) | (refine ne_of_old (by assumption) ?_; first | omega | (simp; done) | (simp; omega))) _) | refine Ow.alloc ?_ _ | refine Ow.drew ?_ | refine Ow.drewN ?_ _))
  clear hb6
  go_wp2_with fail
  refine (driveCrash_c x keep _ _ _ _ _ (O6.rd.2.below (by repeat' (first | assumption | exact Below.refl _ _ | (refine Below.alloc ?_ (by first | exact Nat.le_refl _ | omega | (simp; done) | (simp; omega)) _) | refine Below.drew ?_ | (refine below_drewN ?_ _) | (refine Below.setCell ?_ (by first | exact Nat.le_refl _ | omega | (simp; done) | (simp; omega)) _)))) (O7.rd.2.below (by repeat' (first | assumption | exact Below.refl _ _ | (refine Below.alloc ?_ (by first | exact Nat.le_refl _ | omega | (simp; done) | (simp; omega)) _) | refine Below.drew ?_ | (refine below_drewN ?_ _) | (refine Below.setCell ?_ (by first | exact Nat.le_refl _ | omega | (simp; done) | (simp; omega)) _)))) hB40).mono ?_
  rintro e w7 ⟨A8, c8, F8, rfl, O8, L8, hb7⟩
  have I8 : ∀ b ∈ F8, w6.heap.size ≤ b ∧ b < w7.heap.size := fun b hb => ⟨by have h := L8 b hb; (try simp at h); omega, O8.lt b hb⟩
  have z7 := hb7.size
  (try simp at z7)
  have hB7 : Below w.heap.size w w7 := Below.step (by repeat' (first | assumption | exact Below.refl _ _ | (refine Below.alloc ?_ (by first | exact Nat.le_refl _ | omega | (simp; done) | (simp; omega)) _) | refine Below.drew ?_ | (refine below_drewN ?_ _) | (refine Below.setCell ?_ (by first | exact Nat.le_refl _ | omega | (simp; done) | (simp; omega)) _))) hb7
  replace a0 : w7.cell? ⟨w.heap.size, 0, none⟩ = some (.slice A x.files.length c) := (cell_later hb7 (by first | assumption | (simp; done) | exact Go.Lib.cell?_alloc_some _ (by assumption)))
  replace a1 : w7.cell? ⟨w.heap.size, 1, none⟩ = some (.int .i64 x.room) := (cell_later hb7 (by first | assumption | (simp; done) | exact Go.Lib.cell?_alloc_some _ (by assumption)))
  replace p0 : w7.cell? ⟨w4.heap.size, 0, none⟩ = some (.slice A5 (driveCrash keep x).files.length c5) := (cell_later hb7 (by first | assumption | (simp; done) | exact Go.Lib.cell?_alloc_some _ (by assumption)))
  replace p1 : w7.cell? ⟨w4.heap.size, 1, none⟩ = some (.int .i64 (driveCrash keep x).room) := (cell_later hb7 (by first | assumption | (simp; done) | exact Go.Lib.cell?_alloc_some _ (by assumption)))
  replace q0 : w7.cell? ⟨w5.heap.size, 0, none⟩ = some (.slice A6 x.files.length c6) := (cell_later hb7 (by first | assumption | (simp; done) | exact Go.Lib.cell?_alloc_some _ (by assumption)))
  replace q1 : w7.cell? ⟨w5.heap.size, 1, none⟩ = some (.int .i64 x.room) := (cell_later hb7 (by first | assumption | (simp; done) | exact Go.Lib.cell?_alloc_some _ (by assumption)))
  have u7 : w.heap.size < w7.heap.size := World.block_lt_of_cell? _ _ a0
  have up7 : w4.heap.size < w7.heap.size := World.block_lt_of_cell? _ _ p0
  have uq7 : w5.heap.size < w7.heap.size := World.block_lt_of_cell? _ _ q0
  replace O5 : Ow kStored 62 w7 F5 (.slice A5 (driveCrash keep x).files.length c5) (driveCrash keep x).files := Ow.below hb7 (by repeat' (first | assumption | (refine Ow.setCell_ne ?_ (by first | assumption | (refine ne_of_new (by assumption) ?_; first | omega | (simp; done) | (simp; omega)) | (refine ne_of_old (by assumption) ?_; first | omega | (simp; done) | (simp; omega))) _) | refine Ow.alloc ?_ _ | refine Ow.drew ?_ | refine Ow.drewN ?_ _))
  replace O6 : Ow kStored 62 w7 F6 (.slice A6 x.files.length c6) x.files := Ow.below hb7 (by repeat' (first | assumption | (refine Ow.setCell_ne ?_ (by first | assumption | (refine ne_of_new (by assumption) ?_; first | omega | (simp; done) | (simp; omega)) | (refine ne_of_old (by assumption) ?_; first | omega | (simp; done) | (simp; omega))) _) | refine Ow.alloc ?_ _ | refine Ow.drew ?_ | refine Ow.drewN ?_ _))
  replace O7 : Ow kInt 2 w7 F7 (.slice A7 keep.length c7) keep := Ow.below hb7 (by repeat' (first | assumption | (refine Ow.setCell_ne ?_ (by first | assumption | (refine ne_of_new (by assumption) ?_; first | omega | (simp; done) | (simp; omega)) | (refine ne_of_old (by assumption) ?_; first | omega | (simp; done) | (simp; omega))) _) | refine Ow.alloc ?_ _ | refine Ow.drew ?_ | refine Ow.drewN ?_ _))
  clear hb7
  go_wp2_with fail
  refine (eqDrive_c (driveCrash keep x) _ _ _ _ _ (O8.rd.2.below (by repeat' (first | assumption | exact Below.refl _ _ | (refine Below.alloc ?_ (by first | exact Nat.le_refl _ | omega | (simp; done) | (simp; omega)) _) | refine Below.drew ?_ | (refine below_drewN ?_ _) | (refine Below.setCell ?_ (by first | exact Nat.le_refl _ | omega | (simp; done) | (simp; omega)) _)))) (O5.rd.2.below (by repeat' (first | assumption | exact Below.refl _ _ | (refine Below.alloc ?_ (by first | exact Nat.le_refl _ | omega | (simp; done) | (simp; omega)) _) | refine Below.drew ?_ | (refine below_drewN ?_ _) | (refine Below.setCell ?_ (by first | exact Nat.le_refl _ | omega | (simp; done) | (simp; omega)) _))))).mono ?_
  rintro e w8 ⟨rfl, hb8⟩
  have z8 := hb8.size
  (try simp at z8)
  have hB8 : Below w.heap.size w w8 := Below.step (by repeat' (first | assumption | exact Below.refl _ _ | (refine Below.alloc ?_ (by first | exact Nat.le_refl _ | omega | (simp; done) | (simp; omega)) _) | refine Below.drew ?_ | (refine below_drewN ?_ _) | (refine Below.setCell ?_ (by first | exact Nat.le_refl _ | omega | (simp; done) | (simp; omega)) _))) hb8
  replace a0 : w8.cell? ⟨w.heap.size, 0, none⟩ = some (.slice A x.files.length c) := (cell_later hb8 (by first | assumption | (simp; done) | exact Go.Lib.cell?_alloc_some _ (by assumption)))
  replace a1 : w8.cell? ⟨w.heap.size, 1, none⟩ = some (.int .i64 x.room) := (cell_later hb8 (by first | assumption | (simp; done) | exact Go.Lib.cell?_alloc_some _ (by assumption)))
  replace p0 : w8.cell? ⟨w4.heap.size, 0, none⟩ = some (.slice A5 (driveCrash keep x).files.length c5) := (cell_later hb8 (by first | assumption | (simp; done) | exact Go.Lib.cell?_alloc_some _ (by assumption)))
  replace p1 : w8.cell? ⟨w4.heap.size, 1, none⟩ = some (.int .i64 (driveCrash keep x).room) := (cell_later hb8 (by first | assumption | (simp; done) | exact Go.Lib.cell?_alloc_some _ (by assumption)))
  replace q0 : w8.cell? ⟨w5.heap.size, 0, none⟩ = some (.slice A6 x.files.length c6) := (cell_later hb8 (by first | assumption | (simp; done) | exact Go.Lib.cell?_alloc_some _ (by assumption)))
  replace q1 : w8.cell? ⟨w5.heap.size, 1, none⟩ = some (.int .i64 x.room) := (cell_later hb8 (by first | assumption | (simp; done) | exact Go.Lib.cell?_alloc_some _ (by assumption)))
  have r0 : w8.cell? ⟨w7.heap.size, 0, none⟩ = some (.slice A8 (driveCrash keep x).files.length c8) := (cell_later hb8 (by first | assumption | (simp; done) | exact Go.Lib.cell?_alloc_some _ (by assumption)))
  have r1 : w8.cell? ⟨w7.heap.size, 1, none⟩ = some (.int .i64 (driveCrash keep x).room) := (cell_later hb8 (by first | assumption | (simp; done) | exact Go.Lib.cell?_alloc_some _ (by assumption)))
  have u8 : w.heap.size < w8.heap.size := World.block_lt_of_cell? _ _ a0
  have up8 : w4.heap.size < w8.heap.size := World.block_lt_of_cell? _ _ p0
  have uq8 : w5.heap.size < w8.heap.size := World.block_lt_of_cell? _ _ q0
  have ur8 : w7.heap.size < w8.heap.size := World.block_lt_of_cell? _ _ r0
  replace O5 : Ow kStored 62 w8 F5 (.slice A5 (driveCrash keep x).files.length c5) (driveCrash keep x).files := Ow.below hb8 (by repeat' (first | assumption | (refine Ow.setCell_ne ?_ (by first | assumption | (refine ne_of_new (by assumption) ?_; first | omega | (simp; done) | (simp; omega)) | (refine ne_of_old (by assumption) ?_; first | omega | (simp; done) | (simp; omega))) _) | refine Ow.alloc ?_ _ | refine Ow.drew ?_ | refine Ow.drewN ?_ _))
  replace O6 : Ow kStored 62 w8 F6 (.slice A6 x.files.length c6) x.files := Ow.below hb8 (by repeat' (first | assumption | (refine Ow.setCell_ne ?_ (by first | assumption | (refine ne_of_new (by assumption) ?_; first | omega | (simp; done) | (simp; omega)) | (refine ne_of_old (by assumption) ?_; first | omega | (simp; done) | (simp; omega))) _) | refine Ow.alloc ?_ _ | refine Ow.drew ?_ | refine Ow.drewN ?_ _))
  replace O7 : Ow kInt 2 w8 F7 (.slice A7 keep.length c7) keep := Ow.below hb8 (by repeat' (first | assumption | (refine Ow.setCell_ne ?_ (by first | assumption | (refine ne_of_new (by assumption) ?_; first | omega | (simp; done) | (simp; omega)) | (refine ne_of_old (by assumption) ?_; first | omega | (simp; done) | (simp; omega))) _) | refine Ow.alloc ?_ _ | refine Ow.drew ?_ | refine Ow.drewN ?_ _))
  replace O8 : Ow kStored 62 w8 F8 (.slice A8 (driveCrash keep x).files.length c8) (driveCrash keep x).files := Ow.below hb8 (by repeat' (first | assumption | (refine Ow.setCell_ne ?_ (by first | assumption | (refine ne_of_new (by assumption) ?_; first | omega | (simp; done) | (simp; omega)) | (refine ne_of_old (by assumption) ?_; first | omega | (simp; done) | (simp; omega))) _) | refine Ow.alloc ?_ _ | refine Ow.drew ?_ | refine Ow.drewN ?_ _))
  clear hb8
  go_upto_region 13 with (fail)
  go_cut [42] from 38 to 42 (fun v wc => v = .bool false ∧ Below w8.heap.size w8 wc)
  case first =>
    go_region_with (first | (go_at_call 9; refine (toDrive_c x A c _ (H.below (by repeat' (first | assumption | exact Below.refl _ _ | (refine Below.alloc ?_ (by first | exact Nat.le_refl _ | omega | (simp; done) | (simp; omega)) _) | refine Below.drew ?_ | (refine below_drewN ?_ _) | (refine Below.setCell ?_ (by first | exact Nat.le_refl _ | omega | (simp; done) | (simp; omega)) _)))) c1).mono ?_; rintro e w9 ⟨_, F9, rfl, O9, L9, hb9⟩; obtain ⟨A9, c9, rfl⟩ := O9.slice; have g0 : w9.cell? ⟨w5.heap.size, 0, none⟩ = some (.slice A6 x.files.length c6) := (cell_later hb9 (by first | assumption | (simp; done) | exact Go.Lib.cell?_alloc_some _ (by assumption))); have g1 : w9.cell? ⟨w5.heap.size, 1, none⟩ = some (.int .i64 x.room) := (cell_later hb9 (by first | assumption | (simp; done) | exact Go.Lib.cell?_alloc_some _ (by assumption))); have hC9 : Below w8.heap.size w8 w9 := Below.step (by repeat' (first | assumption | exact Below.refl _ _ | (refine Below.alloc ?_ (by first | exact Nat.le_refl _ | omega | (simp; done) | (simp; omega)) _) | refine Below.drew ?_ | (refine below_drewN ?_ _) | (refine Below.setCell ?_ (by first | exact Nat.le_refl _ | omega | (simp; done) | (simp; omega)) _))) hb9; clear hb9) | (go_at_call 11; refine (eqDrive_c x _ _ _ _ _ (O6.rd.2.below (by repeat' (first | assumption | exact Below.refl _ _ | (refine Below.alloc ?_ (by first | exact Nat.le_refl _ | omega | (simp; done) | (simp; omega)) _) | refine Below.drew ?_ | (refine below_drewN ?_ _) | (refine Below.setCell ?_ (by first | exact Nat.le_refl _ | omega | (simp; done) | (simp; omega)) _)))) (O9.rd.2.below (by repeat' (first | assumption | exact Below.refl _ _ | (refine Below.alloc ?_ (by first | exact Nat.le_refl _ | omega | (simp; done) | (simp; omega)) _) | refine Below.drew ?_ | (refine below_drewN ?_ _) | (refine Below.setCell ?_ (by first | exact Nat.le_refl _ | omega | (simp; done) | (simp; omega)) _))))).mono ?_; rintro e w10 ⟨rfl, hb10⟩; have hC10 : Below w8.heap.size w8 w10 := Below.step (by repeat' (first | assumption | exact Below.refl _ _ | (refine Below.alloc ?_ (by first | exact Nat.le_refl _ | omega | (simp; done) | (simp; omega)) _) | refine Below.drew ?_ | (refine below_drewN ?_ _) | (refine Below.setCell ?_ (by first | exact Nat.le_refl _ | omega | (simp; done) | (simp; omega)) _))) hb10; clear hb10))
    all_goals
      go_wp2_with fail
      go_meet
      exact ⟨rfl, (by repeat' (first | assumption | exact Below.refl _ _ | (refine Below.alloc ?_ (by first | exact Nat.le_refl _ | omega | (simp; done) | (simp; omega)) _) | refine Below.drew ?_ | (refine below_drewN ?_ _) | (refine Below.setCell ?_ (by first | exact Nat.le_refl _ | omega | (simp; done) | (simp; omega)) _)))⟩
  case rest =>
    obtain ⟨rfl, hb9⟩ := hcut
    have z9 := hb9.size
    (try simp at z9)
    have hB9 : Below w.heap.size w wc := Below.step (by repeat' (first | assumption | exact Below.refl _ _ | (refine Below.alloc ?_ (by first | exact Nat.le_refl _ | omega | (simp; done) | (simp; omega)) _) | refine Below.drew ?_ | (refine below_drewN ?_ _) | (refine Below.setCell ?_ (by first | exact Nat.le_refl _ | omega | (simp; done) | (simp; omega)) _))) hb9
    replace a0 : wc.cell? ⟨w.heap.size, 0, none⟩ = some (.slice A x.files.length c) := (cell_later hb9 (by first | assumption | (simp; done) | exact Go.Lib.cell?_alloc_some _ (by assumption)))
    replace a1 : wc.cell? ⟨w.heap.size, 1, none⟩ = some (.int .i64 x.room) := (cell_later hb9 (by first | assumption | (simp; done) | exact Go.Lib.cell?_alloc_some _ (by assumption)))
    have ua9 : w.heap.size < wc.heap.size := World.block_lt_of_cell? _ _ a0
    replace p0 : wc.cell? ⟨w4.heap.size, 0, none⟩ = some (.slice A5 (driveCrash keep x).files.length c5) := (cell_later hb9 (by first | assumption | (simp; done) | exact Go.Lib.cell?_alloc_some _ (by assumption)))
    replace p1 : wc.cell? ⟨w4.heap.size, 1, none⟩ = some (.int .i64 (driveCrash keep x).room) := (cell_later hb9 (by first | assumption | (simp; done) | exact Go.Lib.cell?_alloc_some _ (by assumption)))
    have up9 : w4.heap.size < wc.heap.size := World.block_lt_of_cell? _ _ p0
    replace q0 : wc.cell? ⟨w5.heap.size, 0, none⟩ = some (.slice A6 x.files.length c6) := (cell_later hb9 (by first | assumption | (simp; done) | exact Go.Lib.cell?_alloc_some _ (by assumption)))
    replace q1 : wc.cell? ⟨w5.heap.size, 1, none⟩ = some (.int .i64 x.room) := (cell_later hb9 (by first | assumption | (simp; done) | exact Go.Lib.cell?_alloc_some _ (by assumption)))
    have uq9 : w5.heap.size < wc.heap.size := World.block_lt_of_cell? _ _ q0
    replace r0 : wc.cell? ⟨w7.heap.size, 0, none⟩ = some (.slice A8 (driveCrash keep x).files.length c8) := (cell_later hb9 (by first | assumption | (simp; done) | exact Go.Lib.cell?_alloc_some _ (by assumption)))
    replace r1 : wc.cell? ⟨w7.heap.size, 1, none⟩ = some (.int .i64 (driveCrash keep x).room) := (cell_later hb9 (by first | assumption | (simp; done) | exact Go.Lib.cell?_alloc_some _ (by assumption)))
    have ur9 : w7.heap.size < wc.heap.size := World.block_lt_of_cell? _ _ r0
    replace O5 : Ow kStored 62 wc F5 (.slice A5 (driveCrash keep x).files.length c5) (driveCrash keep x).files := Ow.below hb9 (by repeat' (first | assumption | (refine Ow.setCell_ne ?_ (by first | assumption | (refine ne_of_new (by assumption) ?_; first | omega | (simp; done) | (simp; omega)) | (refine ne_of_old (by assumption) ?_; first | omega | (simp; done) | (simp; omega))) _) | refine Ow.alloc ?_ _ | refine Ow.drew ?_ | refine Ow.drewN ?_ _))
    replace O6 : Ow kStored 62 wc F6 (.slice A6 x.files.length c6) x.files := Ow.below hb9 (by repeat' (first | assumption | (refine Ow.setCell_ne ?_ (by first | assumption | (refine ne_of_new (by assumption) ?_; first | omega | (simp; done) | (simp; omega)) | (refine ne_of_old (by assumption) ?_; first | omega | (simp; done) | (simp; omega))) _) | refine Ow.alloc ?_ _ | refine Ow.drew ?_ | refine Ow.drewN ?_ _))
    replace O7 : Ow kInt 2 wc F7 (.slice A7 keep.length c7) keep := Ow.below hb9 (by repeat' (first | assumption | (refine Ow.setCell_ne ?_ (by first | assumption | (refine ne_of_new (by assumption) ?_; first | omega | (simp; done) | (simp; omega)) | (refine ne_of_old (by assumption) ?_; first | omega | (simp; done) | (simp; omega))) _) | refine Ow.alloc ?_ _ | refine Ow.drew ?_ | refine Ow.drewN ?_ _))
    replace O8 : Ow kStored 62 wc F8 (.slice A8 (driveCrash keep x).files.length c8) (driveCrash keep x).files := Ow.below hb9 (by repeat' (first | assumption | (refine Ow.setCell_ne ?_ (by first | assumption | (refine ne_of_new (by assumption) ?_; first | omega | (simp; done) | (simp; omega)) | (refine ne_of_old (by assumption) ?_; first | omega | (simp; done) | (simp; omega))) _) | refine Ow.alloc ?_ _ | refine Ow.drew ?_ | refine Ow.drewN ?_ _))
    clear hb9
    go_wp2_with fail
    refine (toInt64S_c keep A2 c2 _ (H2.below (by repeat' (first | assumption | exact Below.refl _ _ | (refine Below.alloc ?_ (by first | exact Nat.le_refl _ | omega | (simp; done) | (simp; omega)) _) | refine Below.drew ?_ | (refine below_drewN ?_ _) | (refine Below.setCell ?_ (by first | exact Nat.le_refl _ | omega | (simp; done) | (simp; omega)) _)))) hl1).mono ?_
    rintro e w10 ⟨_, F9, rfl, O9, L9, hb10⟩
    obtain ⟨A9, c9, rfl⟩ := O9.slice
    have z10 := hb10.size
    (try simp at z10)
    have hB10 : Below w.heap.size w w10 := Below.step (by repeat' (first | assumption | exact Below.refl _ _ | (refine Below.alloc ?_ (by first | exact Nat.le_refl _ | omega | (simp; done) | (simp; omega)) _) | refine Below.drew ?_ | (refine below_drewN ?_ _) | (refine Below.setCell ?_ (by first | exact Nat.le_refl _ | omega | (simp; done) | (simp; omega)) _))) hb10
    replace a0 : w10.cell? ⟨w.heap.size, 0, none⟩ = some (.slice A x.files.length c) := (cell_later hb10 (by first | assumption | (simp; done) | exact Go.Lib.cell?_alloc_some _ (by assumption)))
    replace a1 : w10.cell? ⟨w.heap.size, 1, none⟩ = some (.int .i64 x.room) := (cell_later hb10 (by first | assumption | (simp; done) | exact Go.Lib.cell?_alloc_some _ (by assumption)))
    have ua10 : w.heap.size < w10.heap.size := World.block_lt_of_cell? _ _ a0
    replace p0 : w10.cell? ⟨w4.heap.size, 0, none⟩ = some (.slice A5 (driveCrash keep x).files.length c5) := (cell_later hb10 (by first | assumption | (simp; done) | exact Go.Lib.cell?_alloc_some _ (by assumption)))
    replace p1 : w10.cell? ⟨w4.heap.size, 1, none⟩ = some (.int .i64 (driveCrash keep x).room) := (cell_later hb10 (by first | assumption | (simp; done) | exact Go.Lib.cell?_alloc_some _ (by assumption)))
    have up10 : w4.heap.size < w10.heap.size := World.block_lt_of_cell? _ _ p0
    replace q0 : w10.cell? ⟨w5.heap.size, 0, none⟩ = some (.slice A6 x.files.length c6) := (cell_later hb10 (by first | assumption | (simp; done) | exact Go.Lib.cell?_alloc_some _ (by assumption)))
    replace q1 : w10.cell? ⟨w5.heap.size, 1, none⟩ = some (.int .i64 x.room) := (cell_later hb10 (by first | assumption | (simp; done) | exact Go.Lib.cell?_alloc_some _ (by assumption)))
    have uq10 : w5.heap.size < w10.heap.size := World.block_lt_of_cell? _ _ q0
    replace r0 : w10.cell? ⟨w7.heap.size, 0, none⟩ = some (.slice A8 (driveCrash keep x).files.length c8) := (cell_later hb10 (by first | assumption | (simp; done) | exact Go.Lib.cell?_alloc_some _ (by assumption)))
    replace r1 : w10.cell? ⟨w7.heap.size, 1, none⟩ = some (.int .i64 (driveCrash keep x).room) := (cell_later hb10 (by first | assumption | (simp; done) | exact Go.Lib.cell?_alloc_some _ (by assumption)))
    have ur10 : w7.heap.size < w10.heap.size := World.block_lt_of_cell? _ _ r0
    replace O5 : Ow kStored 62 w10 F5 (.slice A5 (driveCrash keep x).files.length c5) (driveCrash keep x).files := Ow.below hb10 (by repeat' (first | assumption | (refine Ow.setCell_ne ?_ (by first | assumption | (refine ne_of_new (by assumption) ?_; first | omega | (simp; done) | (simp; omega)) | (refine ne_of_old (by assumption) ?_; first | omega | (simp; done) | (simp; omega))) _) | refine Ow.alloc ?_ _ | refine Ow.drew ?_ | refine Ow.drewN ?_ _))
    replace O6 : Ow kStored 62 w10 F6 (.slice A6 x.files.length c6) x.files := Ow.below hb10 (by repeat' (first | assumption | (refine Ow.setCell_ne ?_ (by first | assumption | (refine ne_of_new (by assumption) ?_; first | omega | (simp; done) | (simp; omega)) | (refine ne_of_old (by assumption) ?_; first | omega | (simp; done) | (simp; omega))) _) | refine Ow.alloc ?_ _ | refine Ow.drew ?_ | refine Ow.drewN ?_ _))
    replace O7 : Ow kInt 2 w10 F7 (.slice A7 keep.length c7) keep := Ow.below hb10 (by repeat' (first | assumption | (refine Ow.setCell_ne ?_ (by first | assumption | (refine ne_of_new (by assumption) ?_; first | omega | (simp; done) | (simp; omega)) | (refine ne_of_old (by assumption) ?_; first | omega | (simp; done) | (simp; omega))) _) | refine Ow.alloc ?_ _ | refine Ow.drew ?_ | refine Ow.drewN ?_ _))
    replace O8 : Ow kStored 62 w10 F8 (.slice A8 (driveCrash keep x).files.length c8) (driveCrash keep x).files := Ow.below hb10 (by repeat' (first | assumption | (refine Ow.setCell_ne ?_ (by first | assumption | (refine ne_of_new (by assumption) ?_; first | omega | (simp; done) | (simp; omega)) | (refine ne_of_old (by assumption) ?_; first | omega | (simp; done) | (simp; omega))) _) | refine Ow.alloc ?_ _ | refine Ow.drew ?_ | refine Ow.drewN ?_ _))
    clear hb10
    go_wp2_with fail
    refine (eqInt64S_c keep _ _ _ _ _ (O7.rd.2.below (by repeat' (first | assumption | exact Below.refl _ _ | (refine Below.alloc ?_ (by first | exact Nat.le_refl _ | omega | (simp; done) | (simp; omega)) _) | refine Below.drew ?_ | (refine below_drewN ?_ _) | (refine Below.setCell ?_ (by first | exact Nat.le_refl _ | omega | (simp; done) | (simp; omega)) _)))) (O9.rd.2.below (by repeat' (first | assumption | exact Below.refl _ _ | (refine Below.alloc ?_ (by first | exact Nat.le_refl _ | omega | (simp; done) | (simp; omega)) _) | refine Below.drew ?_ | (refine below_drewN ?_ _) | (refine Below.setCell ?_ (by first | exact Nat.le_refl _ | omega | (simp; done) | (simp; omega)) _))))).mono ?_
    rintro e w11 ⟨rfl, hb11⟩
    have z11 := hb11.size
    (try simp at z11)
    have hB11 : Below w.heap.size w w11 := Below.step (by repeat' (first | assumption | exact Below.refl _ _ | (refine Below.alloc ?_ (by first | exact Nat.le_refl _ | omega | (simp; done) | (simp; omega)) _) | refine Below.drew ?_ | (refine below_drewN ?_ _) | (refine Below.setCell ?_ (by first | exact Nat.le_refl _ | omega | (simp; done) | (simp; omega)) _))) hb11
    replace a0 : w11.cell? ⟨w.heap.size, 0, none⟩ = some (.slice A x.files.length c) := (cell_later hb11 (by first | assumption | (simp; done) | exact Go.Lib.cell?_alloc_some _ (by assumption)))
    replace a1 : w11.cell? ⟨w.heap.size, 1, none⟩ = some (.int .i64 x.room) := (cell_later hb11 (by first | assumption | (simp; done) | exact Go.Lib.cell?_alloc_some _ (by assumption)))
    have ua11 : w.heap.size < w11.heap.size := World.block_lt_of_cell? _ _ a0
    replace p0 : w11.cell? ⟨w4.heap.size, 0, none⟩ = some (.slice A5 (driveCrash keep x).files.length c5) := (cell_later hb11 (by first | assumption | (simp; done) | exact Go.Lib.cell?_alloc_some _ (by assumption)))
    replace p1 : w11.cell? ⟨w4.heap.size, 1, none⟩ = some (.int .i64 (driveCrash keep x).room) := (cell_later hb11 (by first | assumption | (simp; done) | exact Go.Lib.cell?_alloc_some _ (by assumption)))
    have up11 : w4.heap.size < w11.heap.size := World.block_lt_of_cell? _ _ p0
    replace q0 : w11.cell? ⟨w5.heap.size, 0, none⟩ = some (.slice A6 x.files.length c6) := (cell_later hb11 (by first | assumption | (simp; done) | exact Go.Lib.cell?_alloc_some _ (by assumption)))
    replace q1 : w11.cell? ⟨w5.heap.size, 1, none⟩ = some (.int .i64 x.room) := (cell_later hb11 (by first | assumption | (simp; done) | exact Go.Lib.cell?_alloc_some _ (by assumption)))
    have uq11 : w5.heap.size < w11.heap.size := World.block_lt_of_cell? _ _ q0
    replace r0 : w11.cell? ⟨w7.heap.size, 0, none⟩ = some (.slice A8 (driveCrash keep x).files.length c8) := (cell_later hb11 (by first | assumption | (simp; done) | exact Go.Lib.cell?_alloc_some _ (by assumption)))
    replace r1 : w11.cell? ⟨w7.heap.size, 1, none⟩ = some (.int .i64 (driveCrash keep x).room) := (cell_later hb11 (by first | assumption | (simp; done) | exact Go.Lib.cell?_alloc_some _ (by assumption)))
    have ur11 : w7.heap.size < w11.heap.size := World.block_lt_of_cell? _ _ r0
    replace O5 : Ow kStored 62 w11 F5 (.slice A5 (driveCrash keep x).files.length c5) (driveCrash keep x).files := Ow.below hb11 (by repeat' (first | assumption | (refine Ow.setCell_ne ?_ (by first | assumption | (refine ne_of_new (by assumption) ?_; first | omega | (simp; done) | (simp; omega)) | (refine ne_of_old (by assumption) ?_; first | omega | (simp; done) | (simp; omega))) _) | refine Ow.alloc ?_ _ | refine Ow.drew ?_ | refine Ow.drewN ?_ _))
    replace O6 : Ow kStored 62 w11 F6 (.slice A6 x.files.length c6) x.files := Ow.below hb11 (by repeat' (first | assumption | (refine Ow.setCell_ne ?_ (by first | assumption | (refine ne_of_new (by assumption) ?_; first | omega | (simp; done) | (simp; omega)) | (refine ne_of_old (by assumption) ?_; first | omega | (simp; done) | (simp; omega))) _) | refine Ow.alloc ?_ _ | refine Ow.drew ?_ | refine Ow.drewN ?_ _))
    replace O7 : Ow kInt 2 w11 F7 (.slice A7 keep.length c7) keep := Ow.below hb11 (by repeat' (first | assumption | (refine Ow.setCell_ne ?_ (by first | assumption | (refine ne_of_new (by assumption) ?_; first | omega | (simp; done) | (simp; omega)) | (refine ne_of_old (by assumption) ?_; first | omega | (simp; done) | (simp; omega))) _) | refine Ow.alloc ?_ _ | refine Ow.drew ?_ | refine Ow.drewN ?_ _))
    replace O8 : Ow kStored 62 w11 F8 (.slice A8 (driveCrash keep x).files.length c8) (driveCrash keep x).files := Ow.below hb11 (by repeat' (first | assumption | (refine Ow.setCell_ne ?_ (by first | assumption | (refine ne_of_new (by assumption) ?_; first | omega | (simp; done) | (simp; omega)) | (refine ne_of_old (by assumption) ?_; first | omega | (simp; done) | (simp; omega))) _) | refine Ow.alloc ?_ _ | refine Ow.drew ?_ | refine Ow.drewN ?_ _))
    clear hb11
    clear O9 L9
    go_wp2_with fail
    refine (markDrive_c x _ _ _ _ O6 (by omega) (by omega)).mono ?_
    rintro e w12 ⟨F10, rfl, O10, L10, hk12⟩
    have z12 := hk12.size
    (try simp at z12)
    have hB12 : Below w.heap.size w w12 := Below.keep (by repeat' (first | assumption | exact Below.refl _ _ | (refine Below.alloc ?_ (by first | exact Nat.le_refl _ | omega | (simp; done) | (simp; omega)) _) | refine Below.drew ?_ | (refine below_drewN ?_ _) | (refine Below.setCell ?_ (by first | exact Nat.le_refl _ | omega | (simp; done) | (simp; omega)) _))) hk12 (fun b hb => by have := I6 b hb; omega) (by first | omega | (simp; omega))
    replace a0 : w12.cell? ⟨w.heap.size, 0, none⟩ = some (.slice A x.files.length c) := hk12.cell (fun h => by have := I6 w.heap.size h; omega) a0
    replace a1 : w12.cell? ⟨w.heap.size, 1, none⟩ = some (.int .i64 x.room) := hk12.cell (fun h => by have := I6 w.heap.size h; omega) a1
    have ua12 : w.heap.size < w12.heap.size := World.block_lt_of_cell? _ _ a0
    replace p0 : w12.cell? ⟨w4.heap.size, 0, none⟩ = some (.slice A5 (driveCrash keep x).files.length c5) := hk12.cell (fun h => by have := I6 w4.heap.size h; omega) p0
    replace p1 : w12.cell? ⟨w4.heap.size, 1, none⟩ = some (.int .i64 (driveCrash keep x).room) := hk12.cell (fun h => by have := I6 w4.heap.size h; omega) p1
    have up12 : w4.heap.size < w12.heap.size := World.block_lt_of_cell? _ _ p0
    replace q0 : w12.cell? ⟨w5.heap.size, 0, none⟩ = some (.slice A6 x.files.length c6) := hk12.cell (fun h => by have := I6 w5.heap.size h; omega) q0
    replace q1 : w12.cell? ⟨w5.heap.size, 1, none⟩ = some (.int .i64 x.room) := hk12.cell (fun h => by have := I6 w5.heap.size h; omega) q1
    have uq12 : w5.heap.size < w12.heap.size := World.block_lt_of_cell? _ _ q0
    replace r0 : w12.cell? ⟨w7.heap.size, 0, none⟩ = some (.slice A8 (driveCrash keep x).files.length c8) := hk12.cell (fun h => by have := I6 w7.heap.size h; omega) r0
    replace r1 : w12.cell? ⟨w7.heap.size, 1, none⟩ = some (.int .i64 (driveCrash keep x).room) := hk12.cell (fun h => by have := I6 w7.heap.size h; omega) r1
    have ur12 : w7.heap.size < w12.heap.size := World.block_lt_of_cell? _ _ r0
    replace O5 : Ow kStored 62 w12 F5 (.slice A5 (driveCrash keep x).files.length c5) (driveCrash keep x).files := Ow.kept hk12 (fun b hb hg => by have h1 := I5 b hb; have h2 := I6 b hg; omega) O5
    replace O7 : Ow kInt 2 w12 F7 (.slice A7 keep.length c7) keep := Ow.kept hk12 (fun b hb hg => by have h1 := I7 b hb; have h2 := I6 b hg; omega) O7
    replace O8 : Ow kStored 62 w12 F8 (.slice A8 (driveCrash keep x).files.length c8) (driveCrash keep x).files := Ow.kept hk12 (fun b hb hg => by have h1 := I8 b hb; have h2 := I6 b hg; omega) O8
    clear hk12
    clear O10 L10 O6
    go_wp2_with fail
    refine (markInt64S_c keep _ _ _ _ _ O7 (by omega) (by omega)).mono ?_
    rintro e w13 ⟨F11, rfl, O11, L11, hk13⟩
    have z13 := hk13.size
    (try simp at z13)
    have hB13 : Below w.heap.size w w13 := Below.keep (by repeat' (first | assumption | exact Below.refl _ _ | (refine Below.alloc ?_ (by first | exact Nat.le_refl _ | omega | (simp; done) | (simp; omega)) _) | refine Below.drew ?_ | (refine below_drewN ?_ _) | (refine Below.setCell ?_ (by first | exact Nat.le_refl _ | omega | (simp; done) | (simp; omega)) _))) hk13 (fun b hb => by have := I7 b hb; omega) (by first | omega | (simp; omega))
    replace a0 : w13.cell? ⟨w.heap.size, 0, none⟩ = some (.slice A x.files.length c) := hk13.cell (fun h => by have := I7 w.heap.size h; omega) a0
    replace a1 : w13.cell? ⟨w.heap.size, 1, none⟩ = some (.int .i64 x.room) := hk13.cell (fun h => by have := I7 w.heap.size h; omega) a1
    have ua13 : w.heap.size < w13.heap.size := World.block_lt_of_cell? _ _ a0
    replace p0 : w13.cell? ⟨w4.heap.size, 0, none⟩ = some (.slice A5 (driveCrash keep x).files.length c5) := hk13.cell (fun h => by have := I7 w4.heap.size h; omega) p0
    replace p1 : w13.cell? ⟨w4.heap.size, 1, none⟩ = some (.int .i64 (driveCrash keep x).room) := hk13.cell (fun h => by have := I7 w4.heap.size h; omega) p1
    have up13 : w4.heap.size < w13.heap.size := World.block_lt_of_cell? _ _ p0
    replace q0 : w13.cell? ⟨w5.heap.size, 0, none⟩ = some (.slice A6 x.files.length c6) := hk13.cell (fun h => by have := I7 w5.heap.size h; omega) q0
    replace q1 : w13.cell? ⟨w5.heap.size, 1, none⟩ = some (.int .i64 x.room) := hk13.cell (fun h => by have := I7 w5.heap.size h; omega) q1
    have uq13 : w5.heap.size < w13.heap.size := World.block_lt_of_cell? _ _ q0
    replace r0 : w13.cell? ⟨w7.heap.size, 0, none⟩ = some (.slice A8 (driveCrash keep x).files.length c8) := hk13.cell (fun h => by have := I7 w7.heap.size h; omega) r0
    replace r1 : w13.cell? ⟨w7.heap.size, 1, none⟩ = some (.int .i64 (driveCrash keep x).room) := hk13.cell (fun h => by have := I7 w7.heap.size h; omega) r1
    have ur13 : w7.heap.size < w13.heap.size := World.block_lt_of_cell? _ _ r0
    replace O5 : Ow kStored 62 w13 F5 (.slice A5 (driveCrash keep x).files.length c5) (driveCrash keep x).files := Ow.kept hk13 (fun b hb hg => by have h1 := I5 b hb; have h2 := I7 b hg; omega) O5
    replace O8 : Ow kStored 62 w13 F8 (.slice A8 (driveCrash keep x).files.length c8) (driveCrash keep x).files := Ow.kept hk13 (fun b hb hg => by have h1 := I8 b hb; have h2 := I7 b hg; omega) O8
    clear hk13
    clear O11 L11 O7
    have d3 : decide (1 + cnL cnStored x.files + cnL cn1 keep < 0) = false := decide_eq_false (by omega)
    have d4 : decide (1 + cnL cnStored (driveCrash keep x).files < 0) = false := decide_eq_false (by omega)
    go_wp2_with fail
    refine (eqDrive_c (driveCrash keep x) _ _ _ _ _ (O8.rd.2.below (by repeat' (first | assumption | exact Below.refl _ _ | (refine Below.alloc ?_ (by first | exact Nat.le_refl _ | omega | (simp; done) | (simp; omega)) _) | refine Below.drew ?_ | (refine below_drewN ?_ _) | (refine Below.setCell ?_ (by first | exact Nat.le_refl _ | omega | (simp; done) | (simp; omega)) _)))) (O5.rd.2.below (by repeat' (first | assumption | exact Below.refl _ _ | (refine Below.alloc ?_ (by first | exact Nat.le_refl _ | omega | (simp; done) | (simp; omega)) _) | refine Below.drew ?_ | (refine below_drewN ?_ _) | (refine Below.setCell ?_ (by first | exact Nat.le_refl _ | omega | (simp; done) | (simp; omega)) _))))).mono ?_
    rintro e w14 ⟨rfl, hb14⟩
    have z14 := hb14.size
    (try simp at z14)
    have hB14 : Below w.heap.size w w14 := Below.step (by repeat' (first | assumption | exact Below.refl _ _ | (refine Below.alloc ?_ (by first | exact Nat.le_refl _ | omega | (simp; done) | (simp; omega)) _) | refine Below.drew ?_ | (refine below_drewN ?_ _) | (refine Below.setCell ?_ (by first | exact Nat.le_refl _ | omega | (simp; done) | (simp; omega)) _))) hb14
    replace a0 : w14.cell? ⟨w.heap.size, 0, none⟩ = some (.slice A x.files.length c) := (cell_later hb14 (by first | assumption | (simp; done) | exact Go.Lib.cell?_alloc_some _ (by assumption)))
    replace a1 : w14.cell? ⟨w.heap.size, 1, none⟩ = some (.int .i64 x.room) := (cell_later hb14 (by first | assumption | (simp; done) | exact Go.Lib.cell?_alloc_some _ (by assumption)))
    have ua14 : w.heap.size < w14.heap.size := World.block_lt_of_cell? _ _ a0
    replace p0 : w14.cell? ⟨w4.heap.size, 0, none⟩ = some (.slice A5 (driveCrash keep x).files.length c5) := (cell_later hb14 (by first | assumption | (simp; done) | exact Go.Lib.cell?_alloc_some _ (by assumption)))
    replace p1 : w14.cell? ⟨w4.heap.size, 1, none⟩ = some (.int .i64 (driveCrash keep x).room) := (cell_later hb14 (by first | assumption | (simp; done) | exact Go.Lib.cell?_alloc_some _ (by assumption)))
    have up14 : w4.heap.size < w14.heap.size := World.block_lt_of_cell? _ _ p0
    replace r0 : w14.cell? ⟨w7.heap.size, 0, none⟩ = some (.slice A8 (driveCrash keep x).files.length c8) := (cell_later hb14 (by first | assumption | (simp; done) | exact Go.Lib.cell?_alloc_some _ (by assumption)))
    replace r1 : w14.cell? ⟨w7.heap.size, 1, none⟩ = some (.int .i64 (driveCrash keep x).room) := (cell_later hb14 (by first | assumption | (simp; done) | exact Go.Lib.cell?_alloc_some _ (by assumption)))
    have ur14 : w7.heap.size < w14.heap.size := World.block_lt_of_cell? _ _ r0
    replace O5 : Ow kStored 62 w14 F5 (.slice A5 (driveCrash keep x).files.length c5) (driveCrash keep x).files := Ow.below hb14 (by repeat' (first | assumption | (refine Ow.setCell_ne ?_ (by first | assumption | (refine ne_of_new (by assumption) ?_; first | omega | (simp; done) | (simp; omega)) | (refine ne_of_old (by assumption) ?_; first | omega | (simp; done) | (simp; omega))) _) | refine Ow.alloc ?_ _ | refine Ow.drew ?_ | refine Ow.drewN ?_ _))
    replace O8 : Ow kStored 62 w14 F8 (.slice A8 (driveCrash keep x).files.length c8) (driveCrash keep x).files := Ow.below hb14 (by repeat' (first | assumption | (refine Ow.setCell_ne ?_ (by first | assumption | (refine ne_of_new (by assumption) ?_; first | omega | (simp; done) | (simp; omega)) | (refine ne_of_old (by assumption) ?_; first | omega | (simp; done) | (simp; omega))) _) | refine Ow.alloc ?_ _ | refine Ow.drew ?_ | refine Ow.drewN ?_ _))
    clear hb14
    go_wp2_with fail
    refine (markDrive_c (driveCrash keep x) _ _ _ _ O8 (by omega) (by omega)).mono ?_
    rintro e w15 ⟨F12, rfl, O12, L12, hk15⟩
    have z15 := hk15.size
    (try simp at z15)
    have hB15 : Below w.heap.size w w15 := Below.keep (by repeat' (first | assumption | exact Below.refl _ _ | (refine Below.alloc ?_ (by first | exact Nat.le_refl _ | omega | (simp; done) | (simp; omega)) _) | refine Below.drew ?_ | (refine below_drewN ?_ _) | (refine Below.setCell ?_ (by first | exact Nat.le_refl _ | omega | (simp; done) | (simp; omega)) _))) hk15 (fun b hb => by have := I8 b hb; omega) (by first | omega | (simp; omega))
    replace a0 : w15.cell? ⟨w.heap.size, 0, none⟩ = some (.slice A x.files.length c) := hk15.cell (fun h => by have := I8 w.heap.size h; omega) a0
    replace a1 : w15.cell? ⟨w.heap.size, 1, none⟩ = some (.int .i64 x.room) := hk15.cell (fun h => by have := I8 w.heap.size h; omega) a1
    have ua15 : w.heap.size < w15.heap.size := World.block_lt_of_cell? _ _ a0
    replace p0 : w15.cell? ⟨w4.heap.size, 0, none⟩ = some (.slice A5 (driveCrash keep x).files.length c5) := hk15.cell (fun h => by have := I8 w4.heap.size h; omega) p0
    replace p1 : w15.cell? ⟨w4.heap.size, 1, none⟩ = some (.int .i64 (driveCrash keep x).room) := hk15.cell (fun h => by have := I8 w4.heap.size h; omega) p1
    have up15 : w4.heap.size < w15.heap.size := World.block_lt_of_cell? _ _ p0
    replace r0 : w15.cell? ⟨w7.heap.size, 0, none⟩ = some (.slice A8 (driveCrash keep x).files.length c8) := hk15.cell (fun h => by have := I8 w7.heap.size h; omega) r0
    replace r1 : w15.cell? ⟨w7.heap.size, 1, none⟩ = some (.int .i64 (driveCrash keep x).room) := hk15.cell (fun h => by have := I8 w7.heap.size h; omega) r1
    have ur15 : w7.heap.size < w15.heap.size := World.block_lt_of_cell? _ _ r0
    replace O5 : Ow kStored 62 w15 F5 (.slice A5 (driveCrash keep x).files.length c5) (driveCrash keep x).files := Ow.kept hk15 (fun b hb hg => by have h1 := I5 b hb; have h2 := I8 b hg; omega) O5
    clear hk15
    clear O8
    go_wp2_with fail
    refine (heldDrive_c (driveCrash keep x) _ _ _ _ (O12.rd.2.below (by repeat' (first | assumption | exact Below.refl _ _ | (refine Below.alloc ?_ (by first | exact Nat.le_refl _ | omega | (simp; done) | (simp; omega)) _) | refine Below.drew ?_ | (refine below_drewN ?_ _) | (refine Below.setCell ?_ (by first | exact Nat.le_refl _ | omega | (simp; done) | (simp; omega)) _)))) (by omega) (by omega)).mono ?_
    rintro e w16 ⟨rfl, hb16⟩
    have z16 := hb16.size
    (try simp at z16)
    have hB16 : Below w.heap.size w w16 := Below.step (by repeat' (first | assumption | exact Below.refl _ _ | (refine Below.alloc ?_ (by first | exact Nat.le_refl _ | omega | (simp; done) | (simp; omega)) _) | refine Below.drew ?_ | (refine below_drewN ?_ _) | (refine Below.setCell ?_ (by first | exact Nat.le_refl _ | omega | (simp; done) | (simp; omega)) _))) hb16
    replace a0 : w16.cell? ⟨w.heap.size, 0, none⟩ = some (.slice A x.files.length c) := (cell_later hb16 (by first | assumption | (simp; done) | exact Go.Lib.cell?_alloc_some _ (by assumption)))
    replace a1 : w16.cell? ⟨w.heap.size, 1, none⟩ = some (.int .i64 x.room) := (cell_later hb16 (by first | assumption | (simp; done) | exact Go.Lib.cell?_alloc_some _ (by assumption)))
    have ua16 : w.heap.size < w16.heap.size := World.block_lt_of_cell? _ _ a0
    replace p0 : w16.cell? ⟨w4.heap.size, 0, none⟩ = some (.slice A5 (driveCrash keep x).files.length c5) := (cell_later hb16 (by first | assumption | (simp; done) | exact Go.Lib.cell?_alloc_some _ (by assumption)))
    replace p1 : w16.cell? ⟨w4.heap.size, 1, none⟩ = some (.int .i64 (driveCrash keep x).room) := (cell_later hb16 (by first | assumption | (simp; done) | exact Go.Lib.cell?_alloc_some _ (by assumption)))
    have up16 : w4.heap.size < w16.heap.size := World.block_lt_of_cell? _ _ p0
    replace r0 : w16.cell? ⟨w7.heap.size, 0, none⟩ = some (.slice A8 (driveCrash keep x).files.length c8) := (cell_later hb16 (by first | assumption | (simp; done) | exact Go.Lib.cell?_alloc_some _ (by assumption)))
    replace r1 : w16.cell? ⟨w7.heap.size, 1, none⟩ = some (.int .i64 (driveCrash keep x).room) := (cell_later hb16 (by first | assumption | (simp; done) | exact Go.Lib.cell?_alloc_some _ (by assumption)))
    have ur16 : w7.heap.size < w16.heap.size := World.block_lt_of_cell? _ _ r0
    replace O5 : Ow kStored 62 w16 F5 (.slice A5 (driveCrash keep x).files.length c5) (driveCrash keep x).files := Ow.below hb16 (by repeat' (first | assumption | (refine Ow.setCell_ne ?_ (by first | assumption | (refine ne_of_new (by assumption) ?_; first | omega | (simp; done) | (simp; omega)) | (refine ne_of_old (by assumption) ?_; first | omega | (simp; done) | (simp; omega))) _) | refine Ow.alloc ?_ _ | refine Ow.drew ?_ | refine Ow.drewN ?_ _))
    replace O12 : Ow kStored 62 w16 F12 (.slice A8 (driveCrash keep x).files.length c8) (mkL mkStored cnStored (driveCrash keep x).files 1) := Ow.below hb16 (by repeat' (first | assumption | (refine Ow.setCell_ne ?_ (by first | assumption | (refine ne_of_new (by assumption) ?_; first | omega | (simp; done) | (simp; omega)) | (refine ne_of_old (by assumption) ?_; first | omega | (simp; done) | (simp; omega))) _) | refine Ow.alloc ?_ _ | refine Ow.drew ?_ | refine Ow.drewN ?_ _))
    clear hb16
    go_wp2_with fail
    refine (toDrive_c x A c _ (H.below (by repeat' (first | assumption | exact Below.refl _ _ | (refine Below.alloc ?_ (by first | exact Nat.le_refl _ | omega | (simp; done) | (simp; omega)) _) | refine Below.drew ?_ | (refine below_drewN ?_ _) | (refine Below.setCell ?_ (by first | exact Nat.le_refl _ | omega | (simp; done) | (simp; omega)) _)))) c1).mono ?_
    rintro e w17 ⟨_, F14, rfl, O14, L14, hb17⟩
    obtain ⟨A14, c14, rfl⟩ := O14.slice
    have z17 := hb17.size
    (try simp at z17)
    have hB17 : Below w.heap.size w w17 := Below.step (by repeat' (first | assumption | exact Below.refl _ _ | (refine Below.alloc ?_ (by first | exact Nat.le_refl _ | omega | (simp; done) | (simp; omega)) _) | refine Below.drew ?_ | (refine below_drewN ?_ _) | (refine Below.setCell ?_ (by first | exact Nat.le_refl _ | omega | (simp; done) | (simp; omega)) _))) hb17
    replace a0 : w17.cell? ⟨w.heap.size, 0, none⟩ = some (.slice A x.files.length c) := (cell_later hb17 (by first | assumption | (simp; done) | exact Go.Lib.cell?_alloc_some _ (by assumption)))
    replace a1 : w17.cell? ⟨w.heap.size, 1, none⟩ = some (.int .i64 x.room) := (cell_later hb17 (by first | assumption | (simp; done) | exact Go.Lib.cell?_alloc_some _ (by assumption)))
    have ua17 : w.heap.size < w17.heap.size := World.block_lt_of_cell? _ _ a0
    replace p0 : w17.cell? ⟨w4.heap.size, 0, none⟩ = some (.slice A5 (driveCrash keep x).files.length c5) := (cell_later hb17 (by first | assumption | (simp; done) | exact Go.Lib.cell?_alloc_some _ (by assumption)))
    replace p1 : w17.cell? ⟨w4.heap.size, 1, none⟩ = some (.int .i64 (driveCrash keep x).room) := (cell_later hb17 (by first | assumption | (simp; done) | exact Go.Lib.cell?_alloc_some _ (by assumption)))
    have up17 : w4.heap.size < w17.heap.size := World.block_lt_of_cell? _ _ p0
    replace r0 : w17.cell? ⟨w7.heap.size, 0, none⟩ = some (.slice A8 (driveCrash keep x).files.length c8) := (cell_later hb17 (by first | assumption | (simp; done) | exact Go.Lib.cell?_alloc_some _ (by assumption)))
    replace r1 : w17.cell? ⟨w7.heap.size, 1, none⟩ = some (.int .i64 (driveCrash keep x).room) := (cell_later hb17 (by first | assumption | (simp; done) | exact Go.Lib.cell?_alloc_some _ (by assumption)))
    have ur17 : w7.heap.size < w17.heap.size := World.block_lt_of_cell? _ _ r0
    replace O5 : Ow kStored 62 w17 F5 (.slice A5 (driveCrash keep x).files.length c5) (driveCrash keep x).files := Ow.below hb17 (by repeat' (first | assumption | (refine Ow.setCell_ne ?_ (by first | assumption | (refine ne_of_new (by assumption) ?_; first | omega | (simp; done) | (simp; omega)) | (refine ne_of_old (by assumption) ?_; first | omega | (simp; done) | (simp; omega))) _) | refine Ow.alloc ?_ _ | refine Ow.drew ?_ | refine Ow.drewN ?_ _))
    replace O12 : Ow kStored 62 w17 F12 (.slice A8 (driveCrash keep x).files.length c8) (mkL mkStored cnStored (driveCrash keep x).files 1) := Ow.below hb17 (by repeat' (first | assumption | (refine Ow.setCell_ne ?_ (by first | assumption | (refine ne_of_new (by assumption) ?_; first | omega | (simp; done) | (simp; omega)) | (refine ne_of_old (by assumption) ?_; first | omega | (simp; done) | (simp; omega))) _) | refine Ow.alloc ?_ _ | refine Ow.drew ?_ | refine Ow.drewN ?_ _))
    clear hb17
    go_wp2_with fail
    refine (toInt64S_c keep A2 c2 _ (H2.below (by repeat' (first | assumption | exact Below.refl _ _ | (refine Below.alloc ?_ (by first | exact Nat.le_refl _ | omega | (simp; done) | (simp; omega)) _) | refine Below.drew ?_ | (refine below_drewN ?_ _) | (refine Below.setCell ?_ (by first | exact Nat.le_refl _ | omega | (simp; done) | (simp; omega)) _)))) hl1).mono ?_
    rintro e w18 ⟨_, F15, rfl, O15, L15, hb18⟩
    obtain ⟨A15, c15, rfl⟩ := O15.slice
    have z18 := hb18.size
    (try simp at z18)
    have hB18 : Below w.heap.size w w18 := Below.step (by repeat' (first | assumption | exact Below.refl _ _ | (refine Below.alloc ?_ (by first | exact Nat.le_refl _ | omega | (simp; done) | (simp; omega)) _) | refine Below.drew ?_ | (refine below_drewN ?_ _) | (refine Below.setCell ?_ (by first | exact Nat.le_refl _ | omega | (simp; done) | (simp; omega)) _))) hb18
    replace a0 : w18.cell? ⟨w.heap.size, 0, none⟩ = some (.slice A x.files.length c) := (cell_later hb18 (by first | assumption | (simp; done) | exact Go.Lib.cell?_alloc_some _ (by assumption)))
    replace a1 : w18.cell? ⟨w.heap.size, 1, none⟩ = some (.int .i64 x.room) := (cell_later hb18 (by first | assumption | (simp; done) | exact Go.Lib.cell?_alloc_some _ (by assumption)))
    have ua18 : w.heap.size < w18.heap.size := World.block_lt_of_cell? _ _ a0
    replace p0 : w18.cell? ⟨w4.heap.size, 0, none⟩ = some (.slice A5 (driveCrash keep x).files.length c5) := (cell_later hb18 (by first | assumption | (simp; done) | exact Go.Lib.cell?_alloc_some _ (by assumption)))
    replace p1 : w18.cell? ⟨w4.heap.size, 1, none⟩ = some (.int .i64 (driveCrash keep x).room) := (cell_later hb18 (by first | assumption | (simp; done) | exact Go.Lib.cell?_alloc_some _ (by assumption)))
    have up18 : w4.heap.size < w18.heap.size := World.block_lt_of_cell? _ _ p0
    replace r0 : w18.cell? ⟨w7.heap.size, 0, none⟩ = some (.slice A8 (driveCrash keep x).files.length c8) := (cell_later hb18 (by first | assumption | (simp; done) | exact Go.Lib.cell?_alloc_some _ (by assumption)))
    replace r1 : w18.cell? ⟨w7.heap.size, 1, none⟩ = some (.int .i64 (driveCrash keep x).room) := (cell_later hb18 (by first | assumption | (simp; done) | exact Go.Lib.cell?_alloc_some _ (by assumption)))
    have ur18 : w7.heap.size < w18.heap.size := World.block_lt_of_cell? _ _ r0
    replace O5 : Ow kStored 62 w18 F5 (.slice A5 (driveCrash keep x).files.length c5) (driveCrash keep x).files := Ow.below hb18 (by repeat' (first | assumption | (refine Ow.setCell_ne ?_ (by first | assumption | (refine ne_of_new (by assumption) ?_; first | omega | (simp; done) | (simp; omega)) | (refine ne_of_old (by assumption) ?_; first | omega | (simp; done) | (simp; omega))) _) | refine Ow.alloc ?_ _ | refine Ow.drew ?_ | refine Ow.drewN ?_ _))
    replace O12 : Ow kStored 62 w18 F12 (.slice A8 (driveCrash keep x).files.length c8) (mkL mkStored cnStored (driveCrash keep x).files 1) := Ow.below hb18 (by repeat' (first | assumption | (refine Ow.setCell_ne ?_ (by first | assumption | (refine ne_of_new (by assumption) ?_; first | omega | (simp; done) | (simp; omega)) | (refine ne_of_old (by assumption) ?_; first | omega | (simp; done) | (simp; omega))) _) | refine Ow.alloc ?_ _ | refine Ow.drew ?_ | refine Ow.drewN ?_ _))
    replace O14 : Ow kStored 62 w18 F14 (.slice A14 x.files.length c14) x.files := Ow.below hb18 (by repeat' (first | assumption | (refine Ow.setCell_ne ?_ (by first | assumption | (refine ne_of_new (by assumption) ?_; first | omega | (simp; done) | (simp; omega)) | (refine ne_of_old (by assumption) ?_; first | omega | (simp; done) | (simp; omega))) _) | refine Ow.alloc ?_ _ | refine Ow.drew ?_ | refine Ow.drewN ?_ _))
    clear hb18
    go_wp2_with fail
    refine (driveCrash_c x keep _ _ _ _ _ (O14.rd.2.below (by repeat' (first | assumption | exact Below.refl _ _ | (refine Below.alloc ?_ (by first | exact Nat.le_refl _ | omega | (simp; done) | (simp; omega)) _) | refine Below.drew ?_ | (refine below_drewN ?_ _) | (refine Below.setCell ?_ (by first | exact Nat.le_refl _ | omega | (simp; done) | (simp; omega)) _)))) (O15.rd.2.below (by repeat' (first | assumption | exact Below.refl _ _ | (refine Below.alloc ?_ (by first | exact Nat.le_refl _ | omega | (simp; done) | (simp; omega)) _) | refine Below.drew ?_ | (refine below_drewN ?_ _) | (refine Below.setCell ?_ (by first | exact Nat.le_refl _ | omega | (simp; done) | (simp; omega)) _)))) hB40).mono ?_
    rintro e w19 ⟨A16, c16, F16, rfl, O16, L16, hb19⟩
    have z19 := hb19.size
    (try simp at z19)
    have hB19 : Below w.heap.size w w19 := Below.step (by repeat' (first | assumption | exact Below.refl _ _ | (refine Below.alloc ?_ (by first | exact Nat.le_refl _ | omega | (simp; done) | (simp; omega)) _) | refine Below.drew ?_ | (refine below_drewN ?_ _) | (refine Below.setCell ?_ (by first | exact Nat.le_refl _ | omega | (simp; done) | (simp; omega)) _))) hb19
    replace a0 : w19.cell? ⟨w.heap.size, 0, none⟩ = some (.slice A x.files.length c) := (cell_later hb19 (by first | assumption | (simp; done) | exact Go.Lib.cell?_alloc_some _ (by assumption)))
    replace a1 : w19.cell? ⟨w.heap.size, 1, none⟩ = some (.int .i64 x.room) := (cell_later hb19 (by first | assumption | (simp; done) | exact Go.Lib.cell?_alloc_some _ (by assumption)))
    have ua19 : w.heap.size < w19.heap.size := World.block_lt_of_cell? _ _ a0
    replace p0 : w19.cell? ⟨w4.heap.size, 0, none⟩ = some (.slice A5 (driveCrash keep x).files.length c5) := (cell_later hb19 (by first | assumption | (simp; done) | exact Go.Lib.cell?_alloc_some _ (by assumption)))
    replace p1 : w19.cell? ⟨w4.heap.size, 1, none⟩ = some (.int .i64 (driveCrash keep x).room) := (cell_later hb19 (by first | assumption | (simp; done) | exact Go.Lib.cell?_alloc_some _ (by assumption)))
    have up19 : w4.heap.size < w19.heap.size := World.block_lt_of_cell? _ _ p0
    replace r0 : w19.cell? ⟨w7.heap.size, 0, none⟩ = some (.slice A8 (driveCrash keep x).files.length c8) := (cell_later hb19 (by first | assumption | (simp; done) | exact Go.Lib.cell?_alloc_some _ (by assumption)))
    replace r1 : w19.cell? ⟨w7.heap.size, 1, none⟩ = some (.int .i64 (driveCrash keep x).room) := (cell_later hb19 (by first | assumption | (simp; done) | exact Go.Lib.cell?_alloc_some _ (by assumption)))
    have ur19 : w7.heap.size < w19.heap.size := World.block_lt_of_cell? _ _ r0
    replace O5 : Ow kStored 62 w19 F5 (.slice A5 (driveCrash keep x).files.length c5) (driveCrash keep x).files := Ow.below hb19 (by repeat' (first | assumption | (refine Ow.setCell_ne ?_ (by first | assumption | (refine ne_of_new (by assumption) ?_; first | omega | (simp; done) | (simp; omega)) | (refine ne_of_old (by assumption) ?_; first | omega | (simp; done) | (simp; omega))) _) | refine Ow.alloc ?_ _ | refine Ow.drew ?_ | refine Ow.drewN ?_ _))
    replace O12 : Ow kStored 62 w19 F12 (.slice A8 (driveCrash keep x).files.length c8) (mkL mkStored cnStored (driveCrash keep x).files 1) := Ow.below hb19 (by repeat' (first | assumption | (refine Ow.setCell_ne ?_ (by first | assumption | (refine ne_of_new (by assumption) ?_; first | omega | (simp; done) | (simp; omega)) | (refine ne_of_old (by assumption) ?_; first | omega | (simp; done) | (simp; omega))) _) | refine Ow.alloc ?_ _ | refine Ow.drew ?_ | refine Ow.drewN ?_ _))
    clear hb19
    go_wp2_with fail
    refine (eqDrive_c (driveCrash keep x) _ _ _ _ _ (O16.rd.2.below (by repeat' (first | assumption | exact Below.refl _ _ | (refine Below.alloc ?_ (by first | exact Nat.le_refl _ | omega | (simp; done) | (simp; omega)) _) | refine Below.drew ?_ | (refine below_drewN ?_ _) | (refine Below.setCell ?_ (by first | exact Nat.le_refl _ | omega | (simp; done) | (simp; omega)) _)))) (O5.rd.2.below (by repeat' (first | assumption | exact Below.refl _ _ | (refine Below.alloc ?_ (by first | exact Nat.le_refl _ | omega | (simp; done) | (simp; omega)) _) | refine Below.drew ?_ | (refine below_drewN ?_ _) | (refine Below.setCell ?_ (by first | exact Nat.le_refl _ | omega | (simp; done) | (simp; omega)) _))))).mono ?_
    rintro e w20 ⟨rfl, hb20⟩
    have z20 := hb20.size
    (try simp at z20)
    have hB20 : Below w.heap.size w w20 := Below.step (by repeat' (first | assumption | exact Below.refl _ _ | (refine Below.alloc ?_ (by first | exact Nat.le_refl _ | omega | (simp; done) | (simp; omega)) _) | refine Below.drew ?_ | (refine below_drewN ?_ _) | (refine Below.setCell ?_ (by first | exact Nat.le_refl _ | omega | (simp; done) | (simp; omega)) _))) hb20
    replace a0 : w20.cell? ⟨w.heap.size, 0, none⟩ = some (.slice A x.files.length c) := (cell_later hb20 (by first | assumption | (simp; done) | exact Go.Lib.cell?_alloc_some _ (by assumption)))
    replace a1 : w20.cell? ⟨w.heap.size, 1, none⟩ = some (.int .i64 x.room) := (cell_later hb20 (by first | assumption | (simp; done) | exact Go.Lib.cell?_alloc_some _ (by assumption)))
    have ua20 : w.heap.size < w20.heap.size := World.block_lt_of_cell? _ _ a0
    replace p0 : w20.cell? ⟨w4.heap.size, 0, none⟩ = some (.slice A5 (driveCrash keep x).files.length c5) := (cell_later hb20 (by first | assumption | (simp; done) | exact Go.Lib.cell?_alloc_some _ (by assumption)))
    replace p1 : w20.cell? ⟨w4.heap.size, 1, none⟩ = some (.int .i64 (driveCrash keep x).room) := (cell_later hb20 (by first | assumption | (simp; done) | exact Go.Lib.cell?_alloc_some _ (by assumption)))
    have up20 : w4.heap.size < w20.heap.size := World.block_lt_of_cell? _ _ p0
    replace r0 : w20.cell? ⟨w7.heap.size, 0, none⟩ = some (.slice A8 (driveCrash keep x).files.length c8) := (cell_later hb20 (by first | assumption | (simp; done) | exact Go.Lib.cell?_alloc_some _ (by assumption)))
    replace r1 : w20.cell? ⟨w7.heap.size, 1, none⟩ = some (.int .i64 (driveCrash keep x).room) := (cell_later hb20 (by first | assumption | (simp; done) | exact Go.Lib.cell?_alloc_some _ (by assumption)))
    have ur20 : w7.heap.size < w20.heap.size := World.block_lt_of_cell? _ _ r0
    replace O12 : Ow kStored 62 w20 F12 (.slice A8 (driveCrash keep x).files.length c8) (mkL mkStored cnStored (driveCrash keep x).files 1) := Ow.below hb20 (by repeat' (first | assumption | (refine Ow.setCell_ne ?_ (by first | assumption | (refine ne_of_new (by assumption) ?_; first | omega | (simp; done) | (simp; omega)) | (refine ne_of_old (by assumption) ?_; first | omega | (simp; done) | (simp; omega))) _) | refine Ow.alloc ?_ _ | refine Ow.drew ?_ | refine Ow.drewN ?_ _))
    clear hb20
    go_wp2_with fail
    refine (heldDrive_c (driveCrash keep x) _ _ _ _ (O12.rd.2.below (by repeat' (first | assumption | exact Below.refl _ _ | (refine Below.alloc ?_ (by first | exact Nat.le_refl _ | omega | (simp; done) | (simp; omega)) _) | refine Below.drew ?_ | (refine below_drewN ?_ _) | (refine Below.setCell ?_ (by first | exact Nat.le_refl _ | omega | (simp; done) | (simp; omega)) _)))) (by omega) (by omega)).mono ?_
    rintro e w21 ⟨rfl, hb21⟩
    have z21 := hb21.size
    (try simp at z21)
    have hB21 : Below w.heap.size w w21 := Below.step (by repeat' (first | assumption | exact Below.refl _ _ | (refine Below.alloc ?_ (by first | exact Nat.le_refl _ | omega | (simp; done) | (simp; omega)) _) | refine Below.drew ?_ | (refine below_drewN ?_ _) | (refine Below.setCell ?_ (by first | exact Nat.le_refl _ | omega | (simp; done) | (simp; omega)) _))) hb21
    replace a0 : w21.cell? ⟨w.heap.size, 0, none⟩ = some (.slice A x.files.length c) := (cell_later hb21 (by first | assumption | (simp; done) | exact Go.Lib.cell?_alloc_some _ (by assumption)))
    replace a1 : w21.cell? ⟨w.heap.size, 1, none⟩ = some (.int .i64 x.room) := (cell_later hb21 (by first | assumption | (simp; done) | exact Go.Lib.cell?_alloc_some _ (by assumption)))
    have ua21 : w.heap.size < w21.heap.size := World.block_lt_of_cell? _ _ a0
    replace p0 : w21.cell? ⟨w4.heap.size, 0, none⟩ = some (.slice A5 (driveCrash keep x).files.length c5) := (cell_later hb21 (by first | assumption | (simp; done) | exact Go.Lib.cell?_alloc_some _ (by assumption)))
    replace p1 : w21.cell? ⟨w4.heap.size, 1, none⟩ = some (.int .i64 (driveCrash keep x).room) := (cell_later hb21 (by first | assumption | (simp; done) | exact Go.Lib.cell?_alloc_some _ (by assumption)))
    have up21 : w4.heap.size < w21.heap.size := World.block_lt_of_cell? _ _ p0
    replace r0 : w21.cell? ⟨w7.heap.size, 0, none⟩ = some (.slice A8 (driveCrash keep x).files.length c8) := (cell_later hb21 (by first | assumption | (simp; done) | exact Go.Lib.cell?_alloc_some _ (by assumption)))
    replace r1 : w21.cell? ⟨w7.heap.size, 1, none⟩ = some (.int .i64 (driveCrash keep x).room) := (cell_later hb21 (by first | assumption | (simp; done) | exact Go.Lib.cell?_alloc_some _ (by assumption)))
    have ur21 : w7.heap.size < w21.heap.size := World.block_lt_of_cell? _ _ r0
    clear hb21
    go_wp2_with fail
    go_ret
    exact ⟨rfl, (by repeat' (first | assumption | exact Below.refl _ _ | (refine Below.alloc ?_ (by first | exact Nat.le_refl _ | omega | (simp; done) | (simp; omega)) _) | refine Below.drew ?_ | (refine below_drewN ?_ _) | (refine Below.setCell ?_ (by first | exact Nat.le_refl _ | omega | (simp; done) | (simp; omega)) _)))⟩
end Go.Proofs.Ytdgnpkffdiopaaa
