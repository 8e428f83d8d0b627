/- What eq.., to.., sz.. do on the law side. (Printed by this session's gen.py.) -/
import Derived.Test.YtdgnpkffdiopaaaProg
import Derived.Test.YtdgnpkffdiopaaaDt
import Derived.Deep.RegionHeld3
import Derived.WalkSpells
import Derived.Laws.BytesArg
import Derived.KernelRfl
import Derived.WalkSmall
namespace Go.Proofs.Ytdgnpkffdiopaaa
open Go.RowKit
set_option linter.unusedSimpArgs false
set_option linter.unusedVariables false

theorem tyStoredS : SlTy Try.prog 26 62 kStored (zStored : DStored) 40 where
  under := Try.underlying26
  info := by
    have h : (Try.prog.info? 62).map (fun i => (i.zero, i.size, i.bytes)) = some (some (.agg #[.string ⟨#[]⟩, .string ⟨#[]⟩, .int .i64 0]), 3, 40) := by kernel_rfl
    obtain ⟨i, hi, h1, h2, h3⟩ := info_parts h
    exact ⟨i, _, hi, h1, h2, h3, rfl, fun w => ⟨rfl, rfl⟩⟩
  pos := by decide
theorem tyInt64S : SlTy Try.prog 34 2 kInt (0 : Int) 8 where
  under := Try.underlying34
  info := by
    have h : (Try.prog.info? 2).map (fun i => (i.zero, i.size, i.bytes)) = some (some (.int .i64 0), 1, 8) := by kernel_rfl
    obtain ⟨i, hi, h1, h2, h3⟩ := info_parts h
    exact ⟨i, _, hi, h1, h2, h3, rfl, fun w => ⟨rfl, rfl⟩⟩
  pos := by decide
theorem tyDriveS : SlTy Try.prog 46 28 kDrive (zDrive : DDrive) 32 where
  under := Try.underlying46
  info := by
    have h : (Try.prog.info? 28).map (fun i => (i.zero, i.size, i.bytes)) = some (some (.agg #[.slice none 0 0, .int .i64 0]), 2, 32) := by kernel_rfl
    obtain ⟨i, hi, h1, h2, h3⟩ := info_parts h
    exact ⟨i, _, hi, h1, h2, h3, rfl, fun w => kDrive_mk (x := zDrive) (Ow.nil _ _ _)⟩
  pos := by decide
theorem tyStepS : SlTy Try.prog 44 84 kStep (zStep : DStep) 64 where
  under := Try.underlying44
  info := by
    have h : (Try.prog.info? 84).map (fun i => (i.zero, i.size, i.bytes)) = some (some (.agg #[.int .i64 0, .int .i64 0, .string ⟨#[]⟩, .string ⟨#[]⟩, .string ⟨#[]⟩]), 5, 64) := by kernel_rfl
    obtain ⟨i, hi, h1, h2, h3⟩ := info_parts h
    exact ⟨i, _, hi, h1, h2, h3, rfl, fun w => ⟨rfl, rfl⟩⟩
  pos := by decide
theorem tyStringS : SlTy Try.prog 104 9 kStr (⟨#[]⟩ : ByteArray) 16 where
  under := Try.underlying104
  info := by
    have h : (Try.prog.info? 9).map (fun i => (i.zero, i.size, i.bytes)) = some (some (.string ⟨#[]⟩), 1, 16) := by kernel_rfl
    obtain ⟨i, hi, h1, h2, h3⟩ := info_parts h
    exact ⟨i, _, hi, h1, h2, h3, rfl, fun w => ⟨rfl, rfl⟩⟩
  pos := by decide
set_option maxHeartbeats 1000000 in
theorem eqInt64S_c (xs : List Int) (A A' : Option Addr) (c c' : Nat) (w : World) (H : Rd kInt w A c xs) (H' : Rd kInt w A' c' xs) :
    Calls Try.prog 17 #[.slice A xs.length c, .slice A' xs.length c'] w fun e w' => e = .returned (.bool true) ∧ Below w.heap.size w w' := by
  have hn := H.1
  have hm := H.2.1
  unfold maxLen at hm
  go_enter Try.func17, Try.ntmps17
  go_wp2_with fail
  go_loopw [5] (fun i wr => ∃ k : Nat, k ≤ xs.length ∧ i = .int .i64 k ∧ Below w.heap.size w wr) (fun i _ => xs.length - (intOf i).toNat)
  case atStart => exact ⟨0, by omega, rfl, Below.refl _ _⟩
  case round =>
    obtain ⟨k, hk, rfl, hb⟩ := hrel
    by_cases hlt : k < xs.length
    · obtain ⟨b, o, rfl, ha, g0⟩ := rdInt (H.below hb) hlt
      obtain ⟨b', o', rfl, ha', g'0⟩ := rdInt (H'.below hb) hlt
      have hk0 : (0 : Int) ≤ (k : Int) := Int.natCast_nonneg _
      have hk1 : (k : Int) < (xs.length : Int) := by omega
      go_wp2_with fail
      go_quiet (fail)
      go_wp2
      go_roundw
      case rel => exact ⟨k + 1, by omega, by go_num, by first | exact hb | exact below_drewN hb _⟩
      case measure => simp [intOf]; omega
    · go_wp2
      go_ret
      exact ⟨rfl, hb⟩
set_option maxHeartbeats 1000000 in
theorem toInt64S_c (xs : List Int) (A : Option Addr) (c : Nat) (w : World) (H : Rd kInt w A c xs) (hL : (xs.length : Int) ≤ 1048576) :
    Calls Try.prog 15 #[.slice A xs.length c] w fun e w' => ∃ v F, e = .returned v ∧ Ow kInt 2 w' F v xs ∧ (∀ b ∈ F, w.heap.size ≤ b) ∧ Below w.heap.size w w' := by
  have hl : xs.length ≤ 1048576 := by omega
  go_enter Try.func15, Try.ntmps15
  go_wp2_with (at_make; refine wp_make tyInt64S rfl _ _ rfl .i64 .i64 _ xs.length rfl rfl rfl (by omega) (by unfold maxLen; omega) ?_; intro w1 ho hb1 hz1)
  go_loopw [4] (fun i wr => ∃ (k : Nat) (F : List Nat), k ≤ xs.length ∧ i = .int .i64 k ∧ Ow kInt 2 wr F (.slice (some ⟨w.heap.size, 0, none⟩) xs.length xs.length) (xs.take k ++ List.replicate (xs.length - k) 0) ∧ (∀ k ∈ F, w.heap.size ≤ k) ∧ Below w.heap.size w wr) (fun i _ => xs.length - (intOf i).toNat)
  case atStart => exact ⟨0, _, by omega, rfl, by simpa using ho, by simp, hb1⟩
  case round =>
    obtain ⟨k, F, hk, rfl, ho, hF, hb⟩ := hrel
    by_cases hlt : k < xs.length
    · obtain ⟨b, o, rfl, ha, g0⟩ := rdInt (H.below hb) hlt
      have hk0 : (0 : Int) ≤ (k : Int) := Int.natCast_nonneg _
      have hk1 : (k : Int) < (xs.length : Int) := by omega
      have hz := hb.size
      have ho1 := ho
      have hB1 := hb
      have hlen : k < (xs.take k ++ List.replicate (xs.length - k) 0).length := by simp; omega
      obtain ⟨b2, o2, e2, ha2, q0⟩ := rdInt ho1.rd.2 hlen
      cases e2
      have f0 := ho1.free (0 + k)
      simp only [Nat.zero_add] at q0 f0
      obtain ⟨F', ho2, hF2⟩ := ho1.set_new (by decide) hlen (y := xs[k]) (Fy := []) (cy := [.int .i64 xs[k]]) ⟨rfl, rfl⟩ (by simp)
      rw [fill_step xs 0 hlt] at ho2
      go_wp2
      go_roundw
      case rel => exact ⟨k + 1, F', by omega, by go_num, by simpa [setAll, kInt, kStr, kFlat] using ho2, new_or hF2 hF no_mem, (by repeat' (first | assumption | exact Below.refl _ _ | (refine Below.alloc ?_ (by first | exact Nat.le_refl _ | omega | (simp; done) | (simp; omega)) _) | refine Below.drew ?_ | (refine below_drewN ?_ _) | (refine Below.setCell ?_ (by first | exact Nat.le_refl _ | omega | (simp; done) | (simp; omega)) _)))⟩
      case measure => simp [intOf]; omega
    · obtain rfl : k = xs.length := by omega
      go_wp2
      go_ret
      exact ⟨_, F, rfl, by simpa using ho, hF, hb⟩
set_option maxHeartbeats 1000000 in
theorem eqStored_c (x : DStored) (w : World) :
    Calls Try.prog 73 #[.agg #[.string x.name, .string x.text, .int .i64 x.synced], .agg #[.string x.name, .string x.text, .int .i64 x.synced]] w fun e w' => e = .returned (.bool true) ∧ Below w.heap.size w w' := by
  go_enter Try.func73, Try.ntmps73
  go_wp2
  go_ret
  exact ⟨rfl, (by repeat' (first | assumption | exact Below.refl _ _ | (refine Below.alloc ?_ (by first | exact Nat.le_refl _ | omega | (simp; done) | (simp; omega)) _) | refine Below.drew ?_ | (refine below_drewN ?_ _) | (refine Below.setCell ?_ (by first | exact Nat.le_refl _ | omega | (simp; done) | (simp; omega)) _)))⟩
set_option maxHeartbeats 1000000 in
theorem toStored_c (x : DStored) (w : World) :
    Calls Try.prog 66 #[.agg #[.string x.name, .string x.text, .int .i64 x.synced]] w fun e w' => e = .returned (.agg #[.string x.name, .string x.text, .int .i64 x.synced]) ∧ Below w.heap.size w w' := by
  go_enter Try.func66, Try.ntmps66
  go_wp2
  exact bodyPost_ret (v := .agg #[.string x.name, .string x.text, .int .i64 x.synced]) (by simp [results, Try.results66, go_sem]) rfl ⟨rfl, (by repeat' (first | assumption | exact Below.refl _ _ | (refine Below.alloc ?_ (by first | exact Nat.le_refl _ | omega | (simp; done) | (simp; omega)) _) | refine Below.drew ?_ | (refine below_drewN ?_ _) | (refine Below.setCell ?_ (by first | exact Nat.le_refl _ | omega | (simp; done) | (simp; omega)) _)))⟩
set_option maxHeartbeats 1000000 in
theorem szStored_c (x : DStored) (left : Int) (w : World) (ok : okStored x) (l0 : 0 ≤ left) (l1 : left ≤ 1048576) :
    Calls Try.prog 63 #[.agg #[.string x.name, .string x.text, .int .i64 x.synced], .int .i64 left] w fun e w' => e = .returned (.int .i64 (szR (bStored x) left)) ∧ Below w.heap.size w w' := by
  have z_0 : x.name.size ≤ 9223372036854775807 := ok.1
  have z_1 : x.text.size ≤ 9223372036854775807 := ok.2
  have hB : Hid (bStored x = (x.name.size : Int) + (x.text.size : Int)) := rfl
  by_cases s0 : (x.name.size : Int) ≤ left
  case neg =>
    have hR : Hid (szR (bStored x) left = -1) := szR_no (by rw [hB.out]; omega)
    go_enter Try.func63, Try.ntmps63
    go_wp2
    go_ret
    exact ⟨by rw [hR.out]; first | done | rfl, (by repeat' (first | assumption | exact Below.refl _ _ | (refine Below.alloc ?_ (by first | exact Nat.le_refl _ | omega | (simp; done) | (simp; omega)) _) | refine Below.drew ?_ | (refine below_drewN ?_ _) | (refine Below.setCell ?_ (by first | exact Nat.le_refl _ | omega | (simp; done) | (simp; omega)) _)))⟩
  by_cases s1 : (x.name.size : Int) + (x.text.size : Int) ≤ left
  case neg =>
    have hR : Hid (szR (bStored x) left = -1) := szR_no (by rw [hB.out]; omega)
    go_enter Try.func63, Try.ntmps63
    go_wp2
    go_ret
    exact ⟨by rw [hR.out]; first | done | rfl, (by repeat' (first | assumption | exact Below.refl _ _ | (refine Below.alloc ?_ (by first | exact Nat.le_refl _ | omega | (simp; done) | (simp; omega)) _) | refine Below.drew ?_ | (refine below_drewN ?_ _) | (refine Below.setCell ?_ (by first | exact Nat.le_refl _ | omega | (simp; done) | (simp; omega)) _)))⟩
  have hR : Hid (szR (bStored x) left = left - (x.name.size : Int) - (x.text.size : Int)) := by show _ = _; rw [szR_yes (by rw [hB.out]; omega), hB.out]; first | done | omega
  go_enter Try.func63, Try.ntmps63
  go_wp2
  go_ret
  exact ⟨by rw [hR.out]; first | done | rfl, (by repeat' (first | assumption | exact Below.refl _ _ | (refine Below.alloc ?_ (by first | exact Nat.le_refl _ | omega | (simp; done) | (simp; omega)) _) | refine Below.drew ?_ | (refine below_drewN ?_ _) | (refine Below.setCell ?_ (by first | exact Nat.le_refl _ | omega | (simp; done) | (simp; omega)) _)))⟩
set_option maxHeartbeats 1000000 in
theorem eqStoredS_c (xs : List DStored) (A A' : Option Addr) (c c' : Nat) (w : World) (H : Rd kStored w A c xs) (H' : Rd kStored w A' c' xs) :
    Calls Try.prog 43 #[.slice A xs.length c, .slice A' xs.length c'] w fun e w' => e = .returned (.bool true) ∧ Below w.heap.size w w' := by
  have hn := H.1
  have hm := H.2.1
  unfold maxLen at hm
  go_enter Try.func43, Try.ntmps43
  go_wp2_with fail
  go_loopw [5] (fun i wr => ∃ k : Nat, k ≤ xs.length ∧ i = .int .i64 k ∧ Below w.heap.size w wr) (fun i _ => xs.length - (intOf i).toNat)
  case atStart => exact ⟨0, by omega, rfl, Below.refl _ _⟩
  case round =>
    obtain ⟨k, hk, rfl, hb⟩ := hrel
    by_cases hlt : k < xs.length
    · obtain ⟨b, o, rfl, ha, g0, g1, g2⟩ := rdStored (H.below hb) hlt
      obtain ⟨b', o', rfl, ha', g'0, g'1, g'2⟩ := rdStored (H'.below hb) hlt
      have hk0 : (0 : Int) ≤ (k : Int) := Int.natCast_nonneg _
      have hk1 : (k : Int) < (xs.length : Int) := by omega
      have hbr : Below wr.heap.size wr wr := Below.refl _ _
      go_wp2_with fail
      go_region_held3 (fun w' => Below w.heap.size w w' ∧ Below wr.heap.size wr w' ∧ w'.cell? ⟨b, o + k * 3, none⟩ = some (Value.string xs[k].name) ∧ w'.cell? ⟨b, o + k * 3 + 1, none⟩ = some (Value.string xs[k].text) ∧ w'.cell? ⟨b, o + k * 3 + 2, none⟩ = some (Value.int .i64 xs[k].synced) ∧ w'.cell? ⟨b', o' + k * 3, none⟩ = some (Value.string xs[k].name) ∧ w'.cell? ⟨b', o' + k * 3 + 1, none⟩ = some (Value.string xs[k].text) ∧ w'.cell? ⟨b', o' + k * 3 + 2, none⟩ = some (Value.int .i64 xs[k].synced))
        ((go_split_ands; (repeat' apply And.intro) <;> first | go_keep | exact Below.refl _ _ | exact Below.drew (by assumption) | exact Below.drew (Below.refl _ _) | exact Below.step (by assumption) hb1 | exact cell_later hb1 (by assumption)))
        ((go_at_call 73; refine (eqStored_c xs[k] _).mono ?_; rintro e w1 ⟨rfl, hb1⟩))
      go_wp2
      go_roundw
      case rel => exact ⟨k + 1, by omega, by go_num, by go_split_ands; assumption⟩
      case measure => simp [intOf]; omega
    · go_wp2
      go_ret
      exact ⟨rfl, hb⟩
set_option maxHeartbeats 1000000 in
theorem toStoredS_c (xs : List DStored) (A : Option Addr) (c : Nat) (w : World) (H : Rd kStored w A c xs) (hL : bL bStored xs ≤ 1048576) :
    Calls Try.prog 35 #[.slice A xs.length c] w fun e w' => ∃ v F, e = .returned v ∧ Ow kStored 62 w' F v xs ∧ (∀ b ∈ F, w.heap.size ≤ b) ∧ Below w.heap.size w w' := by
  have hl : xs.length ≤ 1048576 := by have := bL_len bStored_nonneg xs; omega
  go_enter Try.func35, Try.ntmps35
  go_wp2_with (at_make; refine wp_make tyStoredS rfl _ _ rfl .i64 .i64 _ xs.length rfl rfl rfl (by omega) (by unfold maxLen; omega) ?_; intro w1 ho hb1 hz1)
  go_loopw [4] (fun i wr => ∃ (k : Nat) (F : List Nat), k ≤ xs.length ∧ i = .int .i64 k ∧ Ow kStored 62 wr F (.slice (some ⟨w.heap.size, 0, none⟩) xs.length xs.length) (xs.take k ++ List.replicate (xs.length - k) zStored) ∧ (∀ k ∈ F, w.heap.size ≤ k) ∧ Below w.heap.size w wr) (fun i _ => xs.length - (intOf i).toNat)
  case atStart => exact ⟨0, _, by omega, rfl, by simpa using ho, by simp, hb1⟩
  case round =>
    obtain ⟨k, F, hk, rfl, ho, hF, hb⟩ := hrel
    by_cases hlt : k < xs.length
    · obtain ⟨b, o, rfl, ha, g0, g1, g2⟩ := rdStored (H.below hb) hlt
      have hk0 : (0 : Int) ≤ (k : Int) := Int.natCast_nonneg _
      have hk1 : (k : Int) < (xs.length : Int) := by omega
      have hz := hb.size
      go_wp2_with fail
      refine (toStored_c xs[k] _  ).mono ?_
      rintro e w1 ⟨rfl, hb1⟩
      have hB1 : Below w.heap.size w w1 := Below.step (by repeat' (first | assumption | exact Below.refl _ _ | (refine Below.alloc ?_ (by first | exact Nat.le_refl _ | omega | (simp; done) | (simp; omega)) _) | refine Below.drew ?_ | (refine below_drewN ?_ _) | (refine Below.setCell ?_ (by first | exact Nat.le_refl _ | omega | (simp; done) | (simp; omega)) _))) hb1; have hc1 := fun (a : Addr) (h : a.block < _) => hb1.cell (p := a) h; have hf1 := fun (a : Addr) (h : a.block < _) => hb1.frozen (p := a) h; have hz1 := hb1.size; have hb1' := Lib.hid hb1; clear hb1
      have ho1 := ho.below hb1'.out
      have hlen : k < (xs.take k ++ List.replicate (xs.length - k) zStored).length := by simp; omega
      obtain ⟨b2, o2, e2, ha2, q0, q1, q2⟩ := rdStored ho1.rd.2 hlen
      cases e2
      have f0 := ho1.free (0 + k * 3)
      have f1 := ho1.free (0 + k * 3 + 1)
      have f2 := ho1.free (0 + k * 3 + 2)
      simp only [Nat.zero_add] at q0 q1 q2 f0 f1 f2
      obtain ⟨F', ho2, hF2⟩ := ho1.set_new (by decide) hlen (y := xs[k]) (Fy := []) (cy := xs[k].enc) ⟨rfl, rfl⟩ (by simp)
      rw [fill_step xs zStored hlt] at ho2
      go_wp2
      go_roundw
      case rel => exact ⟨k + 1, F', by omega, by go_num, ho2, new_or hF2 hF no_mem, (by repeat' (first | assumption | exact Below.refl _ _ | (refine Below.alloc ?_ (by first | exact Nat.le_refl _ | omega | (simp; done) | (simp; omega)) _) | refine Below.drew ?_ | (refine below_drewN ?_ _) | (refine Below.setCell ?_ (by first | exact Nat.le_refl _ | omega | (simp; done) | (simp; omega)) _)))⟩
      case measure => simp [intOf]; omega
    · obtain rfl : k = xs.length := by omega
      go_wp2
      go_ret
      exact ⟨_, F, rfl, by simpa using ho, hF, hb⟩
set_option maxHeartbeats 1000000 in
theorem szStoredS_c (xs : List DStored) (A : Option Addr) (c : Nat) (left : Int) (w : World) (H : Rd kStored w A c xs) (ok : ∀ y ∈ xs, okStored y) (l0 : 0 ≤ left) (l1 : left ≤ 1048576) :
    Calls Try.prog 30 #[.slice A xs.length c, .int .i64 left] w fun e w' => e = .returned (.int .i64 (szR (bL bStored xs) left)) ∧ Below w.heap.size w w' := by
  have hn := H.1
  have hm := H.2.1
  unfold maxLen at hm
  have nn := sum_nonneg bStored_nonneg xs
  have hB : Hid (bL bStored xs = (xs.length : Int) + (xs.map bStored).sum) := rfl
  by_cases s0 : (xs.length : Int) ≤ left
  case neg =>
    rw [szR_no (by rw [hB.out]; omega)]
    go_enter Try.func30, Try.ntmps30
    go_wp2
    go_ret
    exact ⟨rfl, (by repeat' (first | assumption | exact Below.refl _ _ | (refine Below.alloc ?_ (by first | exact Nat.le_refl _ | omega | (simp; done) | (simp; omega)) _) | refine Below.drew ?_ | (refine below_drewN ?_ _) | (refine Below.setCell ?_ (by first | exact Nat.le_refl _ | omega | (simp; done) | (simp; omega)) _)))⟩
  go_enter Try.func30, Try.ntmps30
  go_wp2_with fail
  go_loopw [1, 5] (fun q i wr => ∃ k : Nat, k ≤ xs.length ∧ i = .int .i64 k ∧ q = .int .i64 (left - xs.length - ((xs.take k).map bStored).sum) ∧ (xs.length : Int) + ((xs.take k).map bStored).sum ≤ left ∧ Below w.heap.size w wr) (fun _ i _ => xs.length - (intOf i).toNat)
  case atStart => exact ⟨0, by omega, rfl, by simp, by simpa using s0, (by repeat' (first | assumption | exact Below.refl _ _ | (refine Below.alloc ?_ (by first | exact Nat.le_refl _ | omega | (simp; done) | (simp; omega)) _) | refine Below.drew ?_ | (refine below_drewN ?_ _) | (refine Below.setCell ?_ (by first | exact Nat.le_refl _ | omega | (simp; done) | (simp; omega)) _)))⟩
  case round =>
    obtain ⟨k, hk, rfl, rfl, hs, hb⟩ := hrel
    by_cases hlt : k < xs.length
    · obtain ⟨b, o, rfl, ha, g0, g1, g2⟩ := rdStored (H.below hb) hlt
      have hk0 : (0 : Int) ≤ (k : Int) := Int.natCast_nonneg _
      have hk1 : (k : Int) < (xs.length : Int) := by omega
      have hz := hb.size
      have t1 : Hid (((xs.take (k + 1)).map bStored).sum = ((xs.take k).map bStored).sum + bStored xs[k]) := sum_take_succ _ xs hlt
      have t2 := sum_take_le bStored_nonneg xs (k + 1)
      rw [t1.out] at t2
      have t3 := sum_nonneg bStored_nonneg (xs.take k)
      have t4 := bStored_nonneg xs[k]
      have hi : left - xs.length - ((xs.take k).map bStored).sum ≤ 1048576 := by omega
      have ht : ∀ q, ((xs.take k).map bStored).sum = q → Hid (((xs.take k).map bStored).sum = q) := fun q h => h
      clear ht
      by_cases s1 : bStored xs[k] ≤ left - xs.length - ((xs.take k).map bStored).sum
      · generalize ((xs.take k).map bStored).sum = sm at *
        go_wp2_with fail
        refine (szStored_c xs[k] _ _  (ok _ (List.getElem_mem hlt)) (by omega) (by omega)).mono ?_
        rintro e w1 ⟨rfl, hb1⟩
        rw [szR_yes (by omega)]
        have hB1 : Below w.heap.size w w1 := Below.step (by repeat' (first | assumption | exact Below.refl _ _ | (refine Below.alloc ?_ (by first | exact Nat.le_refl _ | omega | (simp; done) | (simp; omega)) _) | refine Below.drew ?_ | (refine below_drewN ?_ _) | (refine Below.setCell ?_ (by first | exact Nat.le_refl _ | omega | (simp; done) | (simp; omega)) _))) hb1; have hc1 := fun (a : Addr) (h : a.block < _) => hb1.cell (p := a) h; have hf1 := fun (a : Addr) (h : a.block < _) => hb1.frozen (p := a) h; have hz1 := hb1.size; have hb1' := Lib.hid hb1; clear hb1
        clear hc1 hf1
        go_wp2
        go_roundw
        case rel => exact ⟨k + 1, by omega, by go_num, by rw [t1.out]; go_num, by rw [t1.out]; omega, (by repeat' (first | assumption | exact Below.refl _ _ | (refine Below.alloc ?_ (by first | exact Nat.le_refl _ | omega | (simp; done) | (simp; omega)) _) | refine Below.drew ?_ | (refine below_drewN ?_ _) | (refine Below.setCell ?_ (by first | exact Nat.le_refl _ | omega | (simp; done) | (simp; omega)) _)))⟩
        case measure => simp [intOf]; omega
      · generalize ((xs.take k).map bStored).sum = sm at *
        go_wp2_with fail
        refine (szStored_c xs[k] _ _  (ok _ (List.getElem_mem hlt)) (by omega) (by omega)).mono ?_
        rintro e w1 ⟨rfl, hb1⟩
        rw [szR_no (by omega)]
        have hB1 : Below w.heap.size w w1 := Below.step (by repeat' (first | assumption | exact Below.refl _ _ | (refine Below.alloc ?_ (by first | exact Nat.le_refl _ | omega | (simp; done) | (simp; omega)) _) | refine Below.drew ?_ | (refine below_drewN ?_ _) | (refine Below.setCell ?_ (by first | exact Nat.le_refl _ | omega | (simp; done) | (simp; omega)) _))) hb1; have hc1 := fun (a : Addr) (h : a.block < _) => hb1.cell (p := a) h; have hf1 := fun (a : Addr) (h : a.block < _) => hb1.frozen (p := a) h; have hz1 := hb1.size; have hb1' := Lib.hid hb1; clear hb1
        clear hc1 hf1
        go_wp2
        go_ret
        exact ⟨by rw [szR_no (by rw [hB.out]; omega)]; first | done | rfl, (by repeat' (first | assumption | exact Below.refl _ _ | (refine Below.alloc ?_ (by first | exact Nat.le_refl _ | omega | (simp; done) | (simp; omega)) _) | refine Below.drew ?_ | (refine below_drewN ?_ _) | (refine Below.setCell ?_ (by first | exact Nat.le_refl _ | omega | (simp; done) | (simp; omega)) _)))⟩
    · obtain rfl : k = xs.length := by omega
      have hR : Hid (szR (bL bStored xs) left = left - xs.length - ((xs.take xs.length).map bStored).sum) := by
        rw [List.take_length] at *
        show _ = _
        rw [szR_yes (by rw [hB.out]; omega), hB.out]; omega
      go_wp2
      go_ret
      exact ⟨by rw [hR.out]; first | done | rfl, hb⟩
set_option maxHeartbeats 1000000 in
theorem eqDrive_c (x : DDrive) (A0 : Option Addr) (c0 : Nat) (A'0 : Option Addr) (c'0 : Nat) (w : World) (H0 : Rd kStored w A0 c0 x.files) (H'0 : Rd kStored w A'0 c'0 x.files) :
    Calls Try.prog 11 #[.agg #[.slice A0 x.files.length c0, .int .i64 x.room], .agg #[.slice A'0 x.files.length c'0, .int .i64 x.room]] w fun e w' => e = .returned (.bool true) ∧ Below w.heap.size w w' := by
  go_enter Try.func11, Try.ntmps11
  go_wp2_with (first | (go_at_call 43; refine (eqStoredS_c x.files _ _ _ _ _ (H0.below (by repeat' (first | assumption | exact Below.refl _ _ | (refine Below.alloc ?_ (by first | exact Nat.le_refl _ | omega | (simp; done) | (simp; omega)) _) | refine Below.drew ?_ | (refine below_drewN ?_ _) | (refine Below.setCell ?_ (by first | exact Nat.le_refl _ | omega | (simp; done) | (simp; omega)) _)))) (H'0.below (by repeat' (first | assumption | exact Below.refl _ _ | (refine Below.alloc ?_ (by first | exact Nat.le_refl _ | omega | (simp; done) | (simp; omega)) _) | refine Below.drew ?_ | (refine below_drewN ?_ _) | (refine Below.setCell ?_ (by first | exact Nat.le_refl _ | omega | (simp; done) | (simp; omega)) _))))).mono ?_; rintro e w1 ⟨rfl, hb1⟩; have hB1 : Below w.heap.size w w1 := Below.step (by repeat' (first | assumption | exact Below.refl _ _ | (refine Below.alloc ?_ (by first | exact Nat.le_refl _ | omega | (simp; done) | (simp; omega)) _) | refine Below.drew ?_ | (refine below_drewN ?_ _) | (refine Below.setCell ?_ (by first | exact Nat.le_refl _ | omega | (simp; done) | (simp; omega)) _))) hb1; have hc1 := fun (a : Addr) (h : a.block < _) => hb1.cell (p := a) h; have hf1 := fun (a : Addr) (h : a.block < _) => hb1.frozen (p := a) h; have hz1 := hb1.size; have hb1' := Lib.hid hb1; clear hb1))
  go_ret
  exact ⟨rfl, (by repeat' (first | assumption | exact Below.refl _ _ | (refine Below.alloc ?_ (by first | exact Nat.le_refl _ | omega | (simp; done) | (simp; omega)) _) | refine Below.drew ?_ | (refine below_drewN ?_ _) | (refine Below.setCell ?_ (by first | exact Nat.le_refl _ | omega | (simp; done) | (simp; omega)) _)))⟩
set_option maxHeartbeats 1000000 in
theorem toDrive_c (x : DDrive) (A0 : Option Addr) (c0 : Nat) (w : World) (H0 : Rd kStored w A0 c0 x.files) (L0 : bL bStored x.files ≤ 1048576) :
    Calls Try.prog 9 #[.agg #[.slice A0 x.files.length c0, .int .i64 x.room]] w fun e w' => ∃ v0 F0, e = .returned (.agg #[v0, .int .i64 x.room]) ∧ Ow kStored 62 w' F0 v0 x.files ∧ (∀ b ∈ F0, w.heap.size ≤ b) ∧ Below w.heap.size w w' := by
  go_enter Try.func9, Try.ntmps9
  go_wp2_with (first | (go_at_call 35; refine (toStoredS_c x.files _ _ _ (H0.below (by repeat' (first | assumption | exact Below.refl _ _ | (refine Below.alloc ?_ (by first | exact Nat.le_refl _ | omega | (simp; done) | (simp; omega)) _) | refine Below.drew ?_ | (refine below_drewN ?_ _) | (refine Below.setCell ?_ (by first | exact Nat.le_refl _ | omega | (simp; done) | (simp; omega)) _)))) L0).mono ?_; rintro e w1 ⟨v0, F0, rfl, O0, N0, hb1⟩; obtain ⟨a0, d0, rfl⟩ := O0.slice; have S1 := hb1.size; have hB1 : Below w.heap.size w w1 := Below.step (by repeat' (first | assumption | exact Below.refl _ _ | (refine Below.alloc ?_ (by first | exact Nat.le_refl _ | omega | (simp; done) | (simp; omega)) _) | refine Below.drew ?_ | (refine below_drewN ?_ _) | (refine Below.setCell ?_ (by first | exact Nat.le_refl _ | omega | (simp; done) | (simp; omega)) _))) hb1; have hc1 := fun (a : Addr) (h : a.block < _) => hb1.cell (p := a) h; have hf1 := fun (a : Addr) (h : a.block < _) => hb1.frozen (p := a) h; have hz1 := hb1.size; have hb1' := Lib.hid hb1; clear hb1))
  refine bodyPost_ret (v := .agg #[.slice a0 x.files.length d0, .int .i64 x.room]) (by simp [results, Try.results9, go_sem, hc1, hz1]) rfl ⟨_, F0, rfl, (by repeat' (first | assumption | (refine Ow.setCell_ne ?_ (by first | assumption | (refine ne_of_new (by assumption) ?_; first | omega | (simp; done) | (simp; omega)) | (refine ne_of_old (by assumption) ?_; first | omega | (simp; done) | (simp; omega))) _) | refine Ow.alloc ?_ _ | refine Ow.drew ?_ | refine Ow.drewN ?_ _)), fun b hb => by have := N0 b hb; simp at this; omega, (by repeat' (first | assumption | exact Below.refl _ _ | (refine Below.alloc ?_ (by first | exact Nat.le_refl _ | omega | (simp; done) | (simp; omega)) _) | refine Below.drew ?_ | (refine below_drewN ?_ _) | (refine Below.setCell ?_ (by first | exact Nat.le_refl _ | omega | (simp; done) | (simp; omega)) _)))⟩
set_option maxHeartbeats 1000000 in
theorem szDrive_c (x : DDrive) (A0 : Option Addr) (c0 : Nat) (left : Int) (w : World) (H0 : Rd kStored w A0 c0 x.files) (ok : okDrive x) (l0 : 0 ≤ left) (l1 : left ≤ 1048576) :
    Calls Try.prog 7 #[.agg #[.slice A0 x.files.length c0, .int .i64 x.room], .int .i64 left] w fun e w' => e = .returned (.int .i64 (szR (bDrive x) left)) ∧ Below w.heap.size w w' := by
  have n_0 := bL_nonneg bStored_nonneg x.files
  have hB : Hid (bDrive x = bL bStored x.files) := rfl
  by_cases s0 : bL bStored x.files ≤ left
  case neg =>
    have hR : Hid (szR (bDrive x) left = -1) := szR_no (by rw [hB.out]; omega)
    go_enter Try.func7, Try.ntmps7
    go_wp2_with (first | (go_at_call 30; refine (szStoredS_c x.files _ _ _ _ (H0.below (by repeat' (first | assumption | exact Below.refl _ _ | (refine Below.alloc ?_ (by first | exact Nat.le_refl _ | omega | (simp; done) | (simp; omega)) _) | refine Below.drew ?_ | (refine below_drewN ?_ _) | (refine Below.setCell ?_ (by first | exact Nat.le_refl _ | omega | (simp; done) | (simp; omega)) _)))) ok (by omega) (by omega)).mono ?_; rintro e w1 ⟨rfl, hb1⟩; rw [szR_no (by omega)]; have hB1 : Below w.heap.size w w1 := Below.step (by repeat' (first | assumption | exact Below.refl _ _ | (refine Below.alloc ?_ (by first | exact Nat.le_refl _ | omega | (simp; done) | (simp; omega)) _) | refine Below.drew ?_ | (refine below_drewN ?_ _) | (refine Below.setCell ?_ (by first | exact Nat.le_refl _ | omega | (simp; done) | (simp; omega)) _))) hb1; have hc1 := fun (a : Addr) (h : a.block < _) => hb1.cell (p := a) h; have hf1 := fun (a : Addr) (h : a.block < _) => hb1.frozen (p := a) h; have hz1 := hb1.size; have hb1' := Lib.hid hb1; clear hb1))
    go_ret
    exact ⟨by rw [hR.out]; first | done | rfl, (by repeat' (first | assumption | exact Below.refl _ _ | (refine Below.alloc ?_ (by first | exact Nat.le_refl _ | omega | (simp; done) | (simp; omega)) _) | refine Below.drew ?_ | (refine below_drewN ?_ _) | (refine Below.setCell ?_ (by first | exact Nat.le_refl _ | omega | (simp; done) | (simp; omega)) _)))⟩
  have hR : Hid (szR (bDrive x) left = left - bL bStored x.files) := by show _ = _; rw [szR_yes (by rw [hB.out]; omega), hB.out]; first | done | omega
  go_enter Try.func7, Try.ntmps7
  go_wp2_with (first | (go_at_call 30; refine (szStoredS_c x.files _ _ _ _ (H0.below (by repeat' (first | assumption | exact Below.refl _ _ | (refine Below.alloc ?_ (by first | exact Nat.le_refl _ | omega | (simp; done) | (simp; omega)) _) | refine Below.drew ?_ | (refine below_drewN ?_ _) | (refine Below.setCell ?_ (by first | exact Nat.le_refl _ | omega | (simp; done) | (simp; omega)) _)))) ok (by omega) (by omega)).mono ?_; rintro e w1 ⟨rfl, hb1⟩; rw [szR_yes (by omega)]; have hB1 : Below w.heap.size w w1 := Below.step (by repeat' (first | assumption | exact Below.refl _ _ | (refine Below.alloc ?_ (by first | exact Nat.le_refl _ | omega | (simp; done) | (simp; omega)) _) | refine Below.drew ?_ | (refine below_drewN ?_ _) | (refine Below.setCell ?_ (by first | exact Nat.le_refl _ | omega | (simp; done) | (simp; omega)) _))) hb1; have hc1 := fun (a : Addr) (h : a.block < _) => hb1.cell (p := a) h; have hf1 := fun (a : Addr) (h : a.block < _) => hb1.frozen (p := a) h; have hz1 := hb1.size; have hb1' := Lib.hid hb1; clear hb1))
  go_ret
  exact ⟨by rw [hR.out]; first | done | rfl, (by repeat' (first | assumption | exact Below.refl _ _ | (refine Below.alloc ?_ (by first | exact Nat.le_refl _ | omega | (simp; done) | (simp; omega)) _) | refine Below.drew ?_ | (refine below_drewN ?_ _) | (refine Below.setCell ?_ (by first | exact Nat.le_refl _ | omega | (simp; done) | (simp; omega)) _)))⟩
set_option maxHeartbeats 1000000 in
theorem eqDriveS_c (xs : List DDrive) (A A' : Option Addr) (c c' : Nat) (w : World) (H : Rd kDrive w A c xs) (H' : Rd kDrive w A' c' xs) :
    Calls Try.prog 56 #[.slice A xs.length c, .slice A' xs.length c'] w fun e w' => e = .returned (.bool true) ∧ Below w.heap.size w w' := by
  have hn := H.1
  have hm := H.2.1
  unfold maxLen at hm
  go_enter Try.func56, Try.ntmps56
  go_wp2_with fail
  go_loopw [5] (fun i wr => ∃ k : Nat, k ≤ xs.length ∧ i = .int .i64 k ∧ Below w.heap.size w wr) (fun i _ => xs.length - (intOf i).toNat)
  case atStart => exact ⟨0, by omega, rfl, Below.refl _ _⟩
  case round =>
    obtain ⟨k, hk, rfl, hb⟩ := hrel
    by_cases hlt : k < xs.length
    · obtain ⟨b, o, A0, c0, rfl, ha, g0, g1, R0⟩ := rdDrive (H.below hb) hlt
      obtain ⟨b', o', A'0, c'0, rfl, ha', g'0, g'1, R'0⟩ := rdDrive (H'.below hb) hlt
      have hk0 : (0 : Int) ≤ (k : Int) := Int.natCast_nonneg _
      have hk1 : (k : Int) < (xs.length : Int) := by omega
      have hbr : Below wr.heap.size wr wr := Below.refl _ _
      go_wp2_with fail
      go_region_held3 (fun w' => Below w.heap.size w w' ∧ Below wr.heap.size wr w' ∧ w'.cell? ⟨b, o + k * 2, none⟩ = some (Value.slice A0 xs[k].files.length c0) ∧ w'.cell? ⟨b, o + k * 2 + 1, none⟩ = some (Value.int .i64 xs[k].room) ∧ w'.cell? ⟨b', o' + k * 2, none⟩ = some (Value.slice A'0 xs[k].files.length c'0) ∧ w'.cell? ⟨b', o' + k * 2 + 1, none⟩ = some (Value.int .i64 xs[k].room))
        ((go_split_ands; (repeat' apply And.intro) <;> first | go_keep | exact Below.refl _ _ | exact Below.drew (by assumption) | exact Below.drew (Below.refl _ _) | exact Below.step (by assumption) hb1 | exact cell_later hb1 (by assumption)))
        ((go_at_call 11; refine (eqDrive_c xs[k] _ _ _ _ _ (R0.below (by go_split_ands; assumption)) (R'0.below (by go_split_ands; assumption))).mono ?_; rintro e w1 ⟨rfl, hb1⟩))
      go_wp2
      go_roundw
      case rel => exact ⟨k + 1, by omega, by go_num, by go_split_ands; assumption⟩
      case measure => simp [intOf]; omega
    · go_wp2
      go_ret
      exact ⟨rfl, hb⟩
set_option maxHeartbeats 1000000 in
theorem toDriveS_c (xs : List DDrive) (A : Option Addr) (c : Nat) (w : World) (H : Rd kDrive w A c xs) (hL : bL bDrive xs ≤ 1048576) :
    Calls Try.prog 52 #[.slice A xs.length c] w fun e w' => ∃ v F, e = .returned v ∧ Ow kDrive 28 w' F v xs ∧ (∀ b ∈ F, w.heap.size ≤ b) ∧ Below w.heap.size w w' := by
  have hl : xs.length ≤ 1048576 := by have := bL_len bDrive_nonneg xs; omega
  go_enter Try.func52, Try.ntmps52
  go_wp2_with (at_make; refine wp_make tyDriveS rfl _ _ rfl .i64 .i64 _ xs.length rfl rfl rfl (by omega) (by unfold maxLen; omega) ?_; intro w1 ho hb1 hz1)
  go_loopw [4] (fun i wr => ∃ (k : Nat) (F : List Nat), k ≤ xs.length ∧ i = .int .i64 k ∧ Ow kDrive 28 wr F (.slice (some ⟨w.heap.size, 0, none⟩) xs.length xs.length) (xs.take k ++ List.replicate (xs.length - k) zDrive) ∧ (∀ k ∈ F, w.heap.size ≤ k) ∧ Below w.heap.size w wr) (fun i _ => xs.length - (intOf i).toNat)
  case atStart => exact ⟨0, _, by omega, rfl, by simpa using ho, by simp, hb1⟩
  case round =>
    obtain ⟨k, F, hk, rfl, ho, hF, hb⟩ := hrel
    by_cases hlt : k < xs.length
    · obtain ⟨b, o, A0, c0, rfl, ha, g0, g1, R0⟩ := rdDrive (H.below hb) hlt
      have hk0 : (0 : Int) ≤ (k : Int) := Int.natCast_nonneg _
      have hk1 : (k : Int) < (xs.length : Int) := by omega
      have hz := hb.size
      have L0 : bL bStored xs[k].files ≤ 1048576 := by
        have h1 := bL_mem bDrive_nonneg (List.getElem_mem hlt)
        have h2 : bDrive xs[k] = bL bStored xs[k].files := rfl
        omega
      go_wp2_with fail
      refine (toDrive_c xs[k] _ _ _ R0 L0).mono ?_
      rintro e w1 ⟨v0, F0, rfl, O0, N0, hb1⟩
      obtain ⟨a0, d0, rfl⟩ := O0.slice
      have hB1 : Below w.heap.size w w1 := Below.step (by repeat' (first | assumption | exact Below.refl _ _ | (refine Below.alloc ?_ (by first | exact Nat.le_refl _ | omega | (simp; done) | (simp; omega)) _) | refine Below.drew ?_ | (refine below_drewN ?_ _) | (refine Below.setCell ?_ (by first | exact Nat.le_refl _ | omega | (simp; done) | (simp; omega)) _))) hb1; have hc1 := fun (a : Addr) (h : a.block < _) => hb1.cell (p := a) h; have hf1 := fun (a : Addr) (h : a.block < _) => hb1.frozen (p := a) h; have hz1 := hb1.size; have hb1' := Lib.hid hb1; clear hb1
      have ho1 := ho.below hb1'.out
      have hlen : k < (xs.take k ++ List.replicate (xs.length - k) zDrive).length := by simp; omega
      obtain ⟨b2, o2, p0, r0, e2, ha2, q0, q1, _⟩ := rdDrive ho1.rd.2 hlen
      cases e2
      have f0 := ho1.free (0 + k * 2)
      have f1 := ho1.free (0 + k * 2 + 1)
      simp only [Nat.zero_add] at q0 q1 f0 f1
      obtain ⟨F', ho2, hF2⟩ := ho1.set_new (by decide) hlen (y := xs[k]) (Fy := F0) (cy := [.slice a0 xs[k].files.length d0, .int .i64 xs[k].room]) (kDrive_mk O0) (fun b hb hm => by have h1 := ho.lt b hm; have h2 := N0 b hb; omega)
      rw [fill_step xs zDrive hlt] at ho2
      go_wp2
      go_roundw
      case rel => exact ⟨k + 1, F', by omega, by go_num, ho2, new_or hF2 hF (fun b hb => by have := N0 b hb; omega), (by repeat' (first | assumption | exact Below.refl _ _ | (refine Below.alloc ?_ (by first | exact Nat.le_refl _ | omega | (simp; done) | (simp; omega)) _) | refine Below.drew ?_ | (refine below_drewN ?_ _) | (refine Below.setCell ?_ (by first | exact Nat.le_refl _ | omega | (simp; done) | (simp; omega)) _)))⟩
      case measure => simp [intOf]; omega
    · obtain rfl : k = xs.length := by omega
      go_wp2
      go_ret
      exact ⟨_, F, rfl, by simpa using ho, hF, hb⟩
set_option maxHeartbeats 1000000 in
theorem szDriveS_c (xs : List DDrive) (A : Option Addr) (c : Nat) (left : Int) (w : World) (H : Rd kDrive w A c xs) (ok : ∀ y ∈ xs, okDrive y) (l0 : 0 ≤ left) (l1 : left ≤ 1048576) :
    Calls Try.prog 49 #[.slice A xs.length c, .int .i64 left] w fun e w' => e = .returned (.int .i64 (szR (bL bDrive xs) left)) ∧ Below w.heap.size w w' := by
  have hn := H.1
  have hm := H.2.1
  unfold maxLen at hm
  have nn := sum_nonneg bDrive_nonneg xs
  have hB : Hid (bL bDrive xs = (xs.length : Int) + (xs.map bDrive).sum) := rfl
  by_cases s0 : (xs.length : Int) ≤ left
  case neg =>
    rw [szR_no (by rw [hB.out]; omega)]
    go_enter Try.func49, Try.ntmps49
    go_wp2
    go_ret
    exact ⟨rfl, (by repeat' (first | assumption | exact Below.refl _ _ | (refine Below.alloc ?_ (by first | exact Nat.le_refl _ | omega | (simp; done) | (simp; omega)) _) | refine Below.drew ?_ | (refine below_drewN ?_ _) | (refine Below.setCell ?_ (by first | exact Nat.le_refl _ | omega | (simp; done) | (simp; omega)) _)))⟩
  go_enter Try.func49, Try.ntmps49
  go_wp2_with fail
  go_loopw [1, 5] (fun q i wr => ∃ k : Nat, k ≤ xs.length ∧ i = .int .i64 k ∧ q = .int .i64 (left - xs.length - ((xs.take k).map bDrive).sum) ∧ (xs.length : Int) + ((xs.take k).map bDrive).sum ≤ left ∧ Below w.heap.size w wr) (fun _ i _ => xs.length - (intOf i).toNat)
  case atStart => exact ⟨0, by omega, rfl, by simp, by simpa using s0, (by repeat' (first | assumption | exact Below.refl _ _ | (refine Below.alloc ?_ (by first | exact Nat.le_refl _ | omega | (simp; done) | (simp; omega)) _) | refine Below.drew ?_ | (refine below_drewN ?_ _) | (refine Below.setCell ?_ (by first | exact Nat.le_refl _ | omega | (simp; done) | (simp; omega)) _)))⟩
  case round =>
    obtain ⟨k, hk, rfl, rfl, hs, hb⟩ := hrel
    by_cases hlt : k < xs.length
    · obtain ⟨b, o, A0, c0, rfl, ha, g0, g1, R0⟩ := rdDrive (H.below hb) hlt
      have hk0 : (0 : Int) ≤ (k : Int) := Int.natCast_nonneg _
      have hk1 : (k : Int) < (xs.length : Int) := by omega
      have hz := hb.size
      have t1 : Hid (((xs.take (k + 1)).map bDrive).sum = ((xs.take k).map bDrive).sum + bDrive xs[k]) := sum_take_succ _ xs hlt
      have t2 := sum_take_le bDrive_nonneg xs (k + 1)
      rw [t1.out] at t2
      have t3 := sum_nonneg bDrive_nonneg (xs.take k)
      have t4 := bDrive_nonneg xs[k]
      have hi : left - xs.length - ((xs.take k).map bDrive).sum ≤ 1048576 := by omega
      have ht : ∀ q, ((xs.take k).map bDrive).sum = q → Hid (((xs.take k).map bDrive).sum = q) := fun q h => h
      clear ht
      by_cases s1 : bDrive xs[k] ≤ left - xs.length - ((xs.take k).map bDrive).sum
      · generalize ((xs.take k).map bDrive).sum = sm at *
        go_wp2_with fail
        refine (szDrive_c xs[k] _ _ _ _ R0 (ok _ (List.getElem_mem hlt)) (by omega) (by omega)).mono ?_
        rintro e w1 ⟨rfl, hb1⟩
        rw [szR_yes (by omega)]
        have hB1 : Below w.heap.size w w1 := Below.step (by repeat' (first | assumption | exact Below.refl _ _ | (refine Below.alloc ?_ (by first | exact Nat.le_refl _ | omega | (simp; done) | (simp; omega)) _) | refine Below.drew ?_ | (refine below_drewN ?_ _) | (refine Below.setCell ?_ (by first | exact Nat.le_refl _ | omega | (simp; done) | (simp; omega)) _))) hb1; have hc1 := fun (a : Addr) (h : a.block < _) => hb1.cell (p := a) h; have hf1 := fun (a : Addr) (h : a.block < _) => hb1.frozen (p := a) h; have hz1 := hb1.size; have hb1' := Lib.hid hb1; clear hb1
        clear hc1 hf1
        go_wp2
        go_roundw
        case rel => exact ⟨k + 1, by omega, by go_num, by rw [t1.out]; go_num, by rw [t1.out]; omega, (by repeat' (first | assumption | exact Below.refl _ _ | (refine Below.alloc ?_ (by first | exact Nat.le_refl _ | omega | (simp; done) | (simp; omega)) _) | refine Below.drew ?_ | (refine below_drewN ?_ _) | (refine Below.setCell ?_ (by first | exact Nat.le_refl _ | omega | (simp; done) | (simp; omega)) _)))⟩
        case measure => simp [intOf]; omega
      · generalize ((xs.take k).map bDrive).sum = sm at *
        go_wp2_with fail
        refine (szDrive_c xs[k] _ _ _ _ R0 (ok _ (List.getElem_mem hlt)) (by omega) (by omega)).mono ?_
        rintro e w1 ⟨rfl, hb1⟩
        rw [szR_no (by omega)]
        have hB1 : Below w.heap.size w w1 := Below.step (by repeat' (first | assumption | exact Below.refl _ _ | (refine Below.alloc ?_ (by first | exact Nat.le_refl _ | omega | (simp; done) | (simp; omega)) _) | refine Below.drew ?_ | (refine below_drewN ?_ _) | (refine Below.setCell ?_ (by first | exact Nat.le_refl _ | omega | (simp; done) | (simp; omega)) _))) hb1; have hc1 := fun (a : Addr) (h : a.block < _) => hb1.cell (p := a) h; have hf1 := fun (a : Addr) (h : a.block < _) => hb1.frozen (p := a) h; have hz1 := hb1.size; have hb1' := Lib.hid hb1; clear hb1
        clear hc1 hf1
        go_wp2
        go_ret
        exact ⟨by rw [szR_no (by rw [hB.out]; omega)]; first | done | rfl, (by repeat' (first | assumption | exact Below.refl _ _ | (refine Below.alloc ?_ (by first | exact Nat.le_refl _ | omega | (simp; done) | (simp; omega)) _) | refine Below.drew ?_ | (refine below_drewN ?_ _) | (refine Below.setCell ?_ (by first | exact Nat.le_refl _ | omega | (simp; done) | (simp; omega)) _)))⟩
    · obtain rfl : k = xs.length := by omega
      have hR : Hid (szR (bL bDrive xs) left = left - xs.length - ((xs.take xs.length).map bDrive).sum) := by
        rw [List.take_length] at *
        show _ = _
        rw [szR_yes (by rw [hB.out]; omega), hB.out]; omega
      go_wp2
      go_ret
      exact ⟨by rw [hR.out]; first | done | rfl, hb⟩
set_option maxHeartbeats 1000000 in
theorem eqArray_c (x : DArray) (A0 : Option Addr) (c0 : Nat) (A'0 : Option Addr) (c'0 : Nat) (w : World) (H0 : Rd kDrive w A0 c0 x.drives) (H'0 : Rd kDrive w A'0 c'0 x.drives) :
    Calls Try.prog 24 #[.agg #[.int .i64 x.k, .int .i64 x.m, .slice A0 x.drives.length c0], .agg #[.int .i64 x.k, .int .i64 x.m, .slice A'0 x.drives.length c'0]] w fun e w' => e = .returned (.bool true) ∧ Below w.heap.size w w' := by
  go_enter Try.func24, Try.ntmps24
  go_wp2_with (first | (go_at_call 56; refine (eqDriveS_c x.drives _ _ _ _ _ (H0.below (by repeat' (first | assumption | exact Below.refl _ _ | (refine Below.alloc ?_ (by first | exact Nat.le_refl _ | omega | (simp; done) | (simp; omega)) _) | refine Below.drew ?_ | (refine below_drewN ?_ _) | (refine Below.setCell ?_ (by first | exact Nat.le_refl _ | omega | (simp; done) | (simp; omega)) _)))) (H'0.below (by repeat' (first | assumption | exact Below.refl _ _ | (refine Below.alloc ?_ (by first | exact Nat.le_refl _ | omega | (simp; done) | (simp; omega)) _) | refine Below.drew ?_ | (refine below_drewN ?_ _) | (refine Below.setCell ?_ (by first | exact Nat.le_refl _ | omega | (simp; done) | (simp; omega)) _))))).mono ?_; rintro e w1 ⟨rfl, hb1⟩; have hB1 : Below w.heap.size w w1 := Below.step (by repeat' (first | assumption | exact Below.refl _ _ | (refine Below.alloc ?_ (by first | exact Nat.le_refl _ | omega | (simp; done) | (simp; omega)) _) | refine Below.drew ?_ | (refine below_drewN ?_ _) | (refine Below.setCell ?_ (by first | exact Nat.le_refl _ | omega | (simp; done) | (simp; omega)) _))) hb1; have hc1 := fun (a : Addr) (h : a.block < _) => hb1.cell (p := a) h; have hf1 := fun (a : Addr) (h : a.block < _) => hb1.frozen (p := a) h; have hz1 := hb1.size; have hb1' := Lib.hid hb1; clear hb1))
  go_ret
  exact ⟨rfl, (by repeat' (first | assumption | exact Below.refl _ _ | (refine Below.alloc ?_ (by first | exact Nat.le_refl _ | omega | (simp; done) | (simp; omega)) _) | refine Below.drew ?_ | (refine below_drewN ?_ _) | (refine Below.setCell ?_ (by first | exact Nat.le_refl _ | omega | (simp; done) | (simp; omega)) _)))⟩
set_option maxHeartbeats 1000000 in
theorem toArray_c (x : DArray) (A0 : Option Addr) (c0 : Nat) (w : World) (H0 : Rd kDrive w A0 c0 x.drives) (L0 : bL bDrive x.drives ≤ 1048576) :
    Calls Try.prog 21 #[.agg #[.int .i64 x.k, .int .i64 x.m, .slice A0 x.drives.length c0]] w fun e w' => ∃ v0 F0, e = .returned (.agg #[.int .i64 x.k, .int .i64 x.m, v0]) ∧ Ow kDrive 28 w' F0 v0 x.drives ∧ (∀ b ∈ F0, w.heap.size ≤ b) ∧ Below w.heap.size w w' := by
  go_enter Try.func21, Try.ntmps21
  go_wp2_with (first | (go_at_call 52; refine (toDriveS_c x.drives _ _ _ (H0.below (by repeat' (first | assumption | exact Below.refl _ _ | (refine Below.alloc ?_ (by first | exact Nat.le_refl _ | omega | (simp; done) | (simp; omega)) _) | refine Below.drew ?_ | (refine below_drewN ?_ _) | (refine Below.setCell ?_ (by first | exact Nat.le_refl _ | omega | (simp; done) | (simp; omega)) _)))) L0).mono ?_; rintro e w1 ⟨v0, F0, rfl, O0, N0, hb1⟩; obtain ⟨a0, d0, rfl⟩ := O0.slice; have S1 := hb1.size; have hB1 : Below w.heap.size w w1 := Below.step (by repeat' (first | assumption | exact Below.refl _ _ | (refine Below.alloc ?_ (by first | exact Nat.le_refl _ | omega | (simp; done) | (simp; omega)) _) | refine Below.drew ?_ | (refine below_drewN ?_ _) | (refine Below.setCell ?_ (by first | exact Nat.le_refl _ | omega | (simp; done) | (simp; omega)) _))) hb1; have hc1 := fun (a : Addr) (h : a.block < _) => hb1.cell (p := a) h; have hf1 := fun (a : Addr) (h : a.block < _) => hb1.frozen (p := a) h; have hz1 := hb1.size; have hb1' := Lib.hid hb1; clear hb1))
  refine bodyPost_ret (v := .agg #[.int .i64 x.k, .int .i64 x.m, .slice a0 x.drives.length d0]) (by simp [results, Try.results21, go_sem, hc1, hz1]) rfl ⟨_, F0, rfl, (by repeat' (first | assumption | (refine Ow.setCell_ne ?_ (by first | assumption | (refine ne_of_new (by assumption) ?_; first | omega | (simp; done) | (simp; omega)) | (refine ne_of_old (by assumption) ?_; first | omega | (simp; done) | (simp; omega))) _) | refine Ow.alloc ?_ _ | refine Ow.drew ?_ | refine Ow.drewN ?_ _)), fun b hb => by have := N0 b hb; simp at this; omega, (by repeat' (first | assumption | exact Below.refl _ _ | (refine Below.alloc ?_ (by first | exact Nat.le_refl _ | omega | (simp; done) | (simp; omega)) _) | refine Below.drew ?_ | (refine below_drewN ?_ _) | (refine Below.setCell ?_ (by first | exact Nat.le_refl _ | omega | (simp; done) | (simp; omega)) _)))⟩
set_option maxHeartbeats 1000000 in
theorem szArray_c (x : DArray) (A0 : Option Addr) (c0 : Nat) (left : Int) (w : World) (H0 : Rd kDrive w A0 c0 x.drives) (ok : okArray x) (l0 : 0 ≤ left) (l1 : left ≤ 1048576) :
    Calls Try.prog 19 #[.agg #[.int .i64 x.k, .int .i64 x.m, .slice A0 x.drives.length c0], .int .i64 left] w fun e w' => e = .returned (.int .i64 (szR (bArray x) left)) ∧ Below w.heap.size w w' := by
  have n_0 := bL_nonneg bDrive_nonneg x.drives
  have hB : Hid (bArray x = bL bDrive x.drives) := rfl
  by_cases s0 : bL bDrive x.drives ≤ left
  case neg =>
    have hR : Hid (szR (bArray x) left = -1) := szR_no (by rw [hB.out]; omega)
    go_enter Try.func19, Try.ntmps19
    go_wp2_with (first | (go_at_call 49; refine (szDriveS_c x.drives _ _ _ _ (H0.below (by repeat' (first | assumption | exact Below.refl _ _ | (refine Below.alloc ?_ (by first | exact Nat.le_refl _ | omega | (simp; done) | (simp; omega)) _) | refine Below.drew ?_ | (refine below_drewN ?_ _) | (refine Below.setCell ?_ (by first | exact Nat.le_refl _ | omega | (simp; done) | (simp; omega)) _)))) ok (by omega) (by omega)).mono ?_; rintro e w1 ⟨rfl, hb1⟩; rw [szR_no (by omega)]; have hB1 : Below w.heap.size w w1 := Below.step (by repeat' (first | assumption | exact Below.refl _ _ | (refine Below.alloc ?_ (by first | exact Nat.le_refl _ | omega | (simp; done) | (simp; omega)) _) | refine Below.drew ?_ | (refine below_drewN ?_ _) | (refine Below.setCell ?_ (by first | exact Nat.le_refl _ | omega | (simp; done) | (simp; omega)) _))) hb1; have hc1 := fun (a : Addr) (h : a.block < _) => hb1.cell (p := a) h; have hf1 := fun (a : Addr) (h : a.block < _) => hb1.frozen (p := a) h; have hz1 := hb1.size; have hb1' := Lib.hid hb1; clear hb1))
    go_ret
    exact ⟨by rw [hR.out]; first | done | rfl, (by repeat' (first | assumption | exact Below.refl _ _ | (refine Below.alloc ?_ (by first | exact Nat.le_refl _ | omega | (simp; done) | (simp; omega)) _) | refine Below.drew ?_ | (refine below_drewN ?_ _) | (refine Below.setCell ?_ (by first | exact Nat.le_refl _ | omega | (simp; done) | (simp; omega)) _)))⟩
  have hR : Hid (szR (bArray x) left = left - bL bDrive x.drives) := by show _ = _; rw [szR_yes (by rw [hB.out]; omega), hB.out]; first | done | omega
  go_enter Try.func19, Try.ntmps19
  go_wp2_with (first | (go_at_call 49; refine (szDriveS_c x.drives _ _ _ _ (H0.below (by repeat' (first | assumption | exact Below.refl _ _ | (refine Below.alloc ?_ (by first | exact Nat.le_refl _ | omega | (simp; done) | (simp; omega)) _) | refine Below.drew ?_ | (refine below_drewN ?_ _) | (refine Below.setCell ?_ (by first | exact Nat.le_refl _ | omega | (simp; done) | (simp; omega)) _)))) ok (by omega) (by omega)).mono ?_; rintro e w1 ⟨rfl, hb1⟩; rw [szR_yes (by omega)]; have hB1 : Below w.heap.size w w1 := Below.step (by repeat' (first | assumption | exact Below.refl _ _ | (refine Below.alloc ?_ (by first | exact Nat.le_refl _ | omega | (simp; done) | (simp; omega)) _) | refine Below.drew ?_ | (refine below_drewN ?_ _) | (refine Below.setCell ?_ (by first | exact Nat.le_refl _ | omega | (simp; done) | (simp; omega)) _))) hb1; have hc1 := fun (a : Addr) (h : a.block < _) => hb1.cell (p := a) h; have hf1 := fun (a : Addr) (h : a.block < _) => hb1.frozen (p := a) h; have hz1 := hb1.size; have hb1' := Lib.hid hb1; clear hb1))
  go_ret
  exact ⟨by rw [hR.out]; first | done | rfl, (by repeat' (first | assumption | exact Below.refl _ _ | (refine Below.alloc ?_ (by first | exact Nat.le_refl _ | omega | (simp; done) | (simp; omega)) _) | refine Below.drew ?_ | (refine below_drewN ?_ _) | (refine Below.setCell ?_ (by first | exact Nat.le_refl _ | omega | (simp; done) | (simp; omega)) _)))⟩
set_option maxHeartbeats 1000000 in
theorem eqOp_c (x : DOp) (w : World) :
    Calls Try.prog 83 #[.agg #[.int .i64 x.kind, .string x.name, .string x.to_, .string x.text], .agg #[.int .i64 x.kind, .string x.name, .string x.to_, .string x.text]] w fun e w' => e = .returned (.bool true) ∧ Below w.heap.size w w' := by
  go_enter Try.func83, Try.ntmps83
  go_wp2
  go_ret
  exact ⟨rfl, (by repeat' (first | assumption | exact Below.refl _ _ | (refine Below.alloc ?_ (by first | exact Nat.le_refl _ | omega | (simp; done) | (simp; omega)) _) | refine Below.drew ?_ | (refine below_drewN ?_ _) | (refine Below.setCell ?_ (by first | exact Nat.le_refl _ | omega | (simp; done) | (simp; omega)) _)))⟩
set_option maxHeartbeats 1000000 in
theorem eqStep_c (x : DStep) (w : World) :
    Calls Try.prog 55 #[.agg #[.int .i64 x.drive, .int .i64 x.op.kind, .string x.op.name, .string x.op.to_, .string x.op.text], .agg #[.int .i64 x.drive, .int .i64 x.op.kind, .string x.op.name, .string x.op.to_, .string x.op.text]] w fun e w' => e = .returned (.bool true) ∧ Below w.heap.size w w' := by
  go_enter Try.func55, Try.ntmps55
  go_wp2_with (first | (go_at_call 83; refine (eqOp_c x.op _  ).mono ?_; rintro e w1 ⟨rfl, hb1⟩; have hB1 : Below w.heap.size w w1 := Below.step (by repeat' (first | assumption | exact Below.refl _ _ | (refine Below.alloc ?_ (by first | exact Nat.le_refl _ | omega | (simp; done) | (simp; omega)) _) | refine Below.drew ?_ | (refine below_drewN ?_ _) | (refine Below.setCell ?_ (by first | exact Nat.le_refl _ | omega | (simp; done) | (simp; omega)) _))) hb1; have hc1 := fun (a : Addr) (h : a.block < _) => hb1.cell (p := a) h; have hf1 := fun (a : Addr) (h : a.block < _) => hb1.frozen (p := a) h; have hz1 := hb1.size; have hb1' := Lib.hid hb1; clear hb1))
  go_ret
  exact ⟨rfl, (by repeat' (first | assumption | exact Below.refl _ _ | (refine Below.alloc ?_ (by first | exact Nat.le_refl _ | omega | (simp; done) | (simp; omega)) _) | refine Below.drew ?_ | (refine below_drewN ?_ _) | (refine Below.setCell ?_ (by first | exact Nat.le_refl _ | omega | (simp; done) | (simp; omega)) _)))⟩
set_option maxHeartbeats 1000000 in
theorem eqStepS_c (xs : List DStep) (A A' : Option Addr) (c c' : Nat) (w : World) (H : Rd kStep w A c xs) (H' : Rd kStep w A' c' xs) :
    Calls Try.prog 23 #[.slice A xs.length c, .slice A' xs.length c'] w fun e w' => e = .returned (.bool true) ∧ Below w.heap.size w w' := by
  have hn := H.1
  have hm := H.2.1
  unfold maxLen at hm
  go_enter Try.func23, Try.ntmps23
  go_wp2_with fail
  go_loopw [5] (fun i wr => ∃ k : Nat, k ≤ xs.length ∧ i = .int .i64 k ∧ Below w.heap.size w wr) (fun i _ => xs.length - (intOf i).toNat)
  case atStart => exact ⟨0, by omega, rfl, Below.refl _ _⟩
  case round =>
    obtain ⟨k, hk, rfl, hb⟩ := hrel
    by_cases hlt : k < xs.length
    · obtain ⟨b, o, rfl, ha, g0, g1, g2, g3, g4⟩ := rdStep (H.below hb) hlt
      obtain ⟨b', o', rfl, ha', g'0, g'1, g'2, g'3, g'4⟩ := rdStep (H'.below hb) hlt
      have hk0 : (0 : Int) ≤ (k : Int) := Int.natCast_nonneg _
      have hk1 : (k : Int) < (xs.length : Int) := by omega
      have hbr : Below wr.heap.size wr wr := Below.refl _ _
      go_wp2_with fail
      go_region_held3 (fun w' => Below w.heap.size w w' ∧ Below wr.heap.size wr w' ∧ w'.cell? ⟨b, o + k * 5, none⟩ = some (Value.int .i64 xs[k].drive) ∧ w'.cell? ⟨b, o + k * 5 + 1, none⟩ = some (Value.int .i64 xs[k].op.kind) ∧ w'.cell? ⟨b, o + k * 5 + 2, none⟩ = some (Value.string xs[k].op.name) ∧ w'.cell? ⟨b, o + k * 5 + 3, none⟩ = some (Value.string xs[k].op.to_) ∧ w'.cell? ⟨b, o + k * 5 + 4, none⟩ = some (Value.string xs[k].op.text) ∧ w'.cell? ⟨b', o' + k * 5, none⟩ = some (Value.int .i64 xs[k].drive) ∧ w'.cell? ⟨b', o' + k * 5 + 1, none⟩ = some (Value.int .i64 xs[k].op.kind) ∧ w'.cell? ⟨b', o' + k * 5 + 2, none⟩ = some (Value.string xs[k].op.name) ∧ w'.cell? ⟨b', o' + k * 5 + 3, none⟩ = some (Value.string xs[k].op.to_) ∧ w'.cell? ⟨b', o' + k * 5 + 4, none⟩ = some (Value.string xs[k].op.text))
        ((go_split_ands; (repeat' apply And.intro) <;> first | go_keep | exact Below.refl _ _ | exact Below.drew (by assumption) | exact Below.drew (Below.refl _ _) | exact Below.step (by assumption) hb1 | exact cell_later hb1 (by assumption)))
        ((go_at_call 55; refine (eqStep_c xs[k] _).mono ?_; rintro e w1 ⟨rfl, hb1⟩))
      go_wp2
      go_roundw
      case rel => exact ⟨k + 1, by omega, by go_num, by go_split_ands; assumption⟩
      case measure => simp [intOf]; omega
    · go_wp2
      go_ret
      exact ⟨rfl, hb⟩
end Go.Proofs.Ytdgnpkffdiopaaa
