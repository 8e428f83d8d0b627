/- What the functions that clone a drive, and let it crash, do. -/
import Derived.Test.YtdgnpkffdiopaaaW4
import Derived.WalkSpells
import Derived.Lib.SliceRun
namespace Go.Proofs.Ytdgnpkffdiopaaa
open Go.RowKit
set_option linter.unusedSimpArgs false
set_option linter.unusedVariables false
theorem cloneStored_c (xs : List DStored) (A : Option Addr) (c : Nat) (w : World) (H : Rd kStored w A c xs) (hB : bL bStored xs ≤ 1099511627776) :
    Calls Try.prog 67 #[.slice A xs.length c] w fun e w' => ∃ A' c' F, e = .returned (.slice A' xs.length c') ∧ Ow kStored 62 w' F (.slice A' xs.length c') xs ∧ (∀ b ∈ F, w.heap.size ≤ b) ∧ Below w.heap.size w w' := by
  have hl := bL_len bStored_nonneg xs
  have qS : ∀ (w : World) (a : Option Addr) (n c n' c' : Nat), (binOp .eql 26 (.slice a n c) (.slice none n' c')).run Try.prog w = .ok (.bool a.isNone) w := fun w a n c n' c' => Lib.run_eql_slice_nil w _ _ a n c n' c' tyStoredS.under
  cases A with
  | none =>
    obtain rfl : c = 0 := H.2.2.2 rfl
    obtain rfl : xs = [] := List.eq_nil_of_length_eq_zero (by have := H.1; omega)
    go_enter Try.func67, Try.ntmps67
    go_wp2_with fail
    go_ret
    exact ⟨none, 0, [], rfl, Ow.nil _ _ _, no_mem, Below.refl _ _⟩
  | some a =>
    go_enter Try.func67, Try.ntmps67
    go_wp2_with (at_builtin; refine wp_appR tyStoredS rfl (.tmp 5) (.tmp 6) rfl (xs := []) (ys := xs) rfl (ow_empty' _ _ _ (by simp)) rfl rfl (H.below ?b1) (by simp [maxLen]; omega) (by simp; omega) ?_; (case b1 => exact (by repeat' (first | assumption | exact Below.refl _ _ | (refine Below.alloc ?_ (by first | exact Nat.le_refl _ | omega | (simp; done) | (simp; omega)) _) | refine Below.drew ?_ | (refine below_drewN ?_ _) | (refine Below.setCell ?_ (by first | exact Nat.le_refl _ | omega | (simp; done) | (simp; omega)) _)))); intro A' c' w1 F ho hF hk hc hf hz; have hW := hk.out.afterAlloc (by simp); clear hc hf)
    go_ret
    refine ⟨A', c', F, rfl, by have h := ho; simp only [List.nil_append, List.length_nil, Nat.zero_add] at h; exact h, fun b hb => by rcases hF b hb with h | h <;> simp at h <;> omega, hW⟩
theorem copied_c (x : DDrive) (A : Option Addr) (c : Nat) (w : World) (H : Rd kStored w A c x.files) (hB : bDrive x ≤ 1099511627776) :
    Calls Try.prog 37 #[.agg #[.slice A x.files.length c, .int .i64 x.room]] w fun e w' => ∃ A' c' F, e = .returned (.agg #[.slice A' x.files.length c', .int .i64 x.room]) ∧ Ow kStored 62 w' F (.slice A' x.files.length c') x.files ∧ (∀ b ∈ F, w.heap.size ≤ b) ∧ Below w.heap.size w w' := by
  have hB' : bL bStored x.files ≤ 1099511627776 := hB
  go_enter Try.func37, Try.ntmps37
  go_wp2_with fail
  go_region_with ((go_at_call 67; refine (cloneStored_c x.files A c _ (H.below (by repeat' (first | assumption | exact Below.refl _ _ | (refine Below.alloc ?_ (by first | exact Nat.le_refl _ | omega | (simp; done) | (simp; omega)) _) | refine Below.drew ?_ | (refine below_drewN ?_ _) | (refine Below.setCell ?_ (by first | exact Nat.le_refl _ | omega | (simp; done) | (simp; omega)) _)))) hB').mono ?_; rintro e w1 ⟨A', c', F, rfl, ho, hF, hb1⟩; have hW := hb1; have q0 : w1.cell? ⟨w.heap.size, 1, none⟩ = some (.int .i64 x.room) := cell_later hb1 (by simp); have r0 : w1.cell? ⟨w.heap.size + 1, 0, none⟩ = some (.slice none 0 0) := cell_later hb1 (by simp); have r1 : w1.cell? ⟨w.heap.size + 1, 1, none⟩ = some (.int .i64 0) := cell_later hb1 (by simp); have s0 : w1.frozen? ⟨w.heap.size + 1, 0, none⟩ = false := (hb1.frozen (p := ⟨w.heap.size + 1, 0, none⟩) (by first | (simp; done) | (simp; omega) | omega)).trans (by simp); have s1 : w1.frozen? ⟨w.heap.size + 1, 1, none⟩ = false := (hb1.frozen (p := ⟨w.heap.size + 1, 1, none⟩) (by first | (simp; done) | (simp; omega) | omega)).trans (by simp); clear hb1))
  all_goals
    have hF' : ∀ b ∈ F, w.heap.size + 2 ≤ b := fun b hb => by have := hF b hb; simp at this; omega
    have hB1 : Below w.heap.size w w1 := Below.step (by repeat' (first | assumption | exact Below.refl _ _ | (refine Below.alloc ?_ (by first | exact Nat.le_refl _ | omega | (simp; done) | (simp; omega)) _) | refine Below.drew ?_ | (refine below_drewN ?_ _) | (refine Below.setCell ?_ (by first | exact Nat.le_refl _ | omega | (simp; done) | (simp; omega)) _))) hW
    go_wp2_with fail
    exact bodyPost_ret (v := .agg #[.slice A' x.files.length c', .int .i64 x.room]) (by simp [results, Try.results37, go_sem, q0, r0, r1]) rfl ⟨A', c', F, rfl, (by repeat' (first | assumption | (refine Ow.setCell_ne ?_ (by first | assumption | (refine ne_of_new (by assumption) ?_; first | omega | (simp; done) | (simp; omega)) | (refine ne_of_old (by assumption) ?_; first | omega | (simp; done) | (simp; omega))) _) | refine Ow.alloc ?_ _ | refine Ow.drew ?_ | refine Ow.drewN ?_ _)), fun b hb => by have := hF' b hb; omega, (by repeat' (first | assumption | exact Below.refl _ _ | (refine Below.alloc ?_ (by first | exact Nat.le_refl _ | omega | (simp; done) | (simp; omega)) _) | refine Below.drew ?_ | (refine below_drewN ?_ _) | (refine Below.setCell ?_ (by first | exact Nat.le_refl _ | omega | (simp; done) | (simp; omega)) _)))⟩
end Go.Proofs.Ytdgnpkffdiopaaa
