/- What mark.., held.. do on the law side. (Printed by this session's gen.py.) -/
import Derived.Test.YtdgnpkffdiopaaaProg
import Derived.Test.YtdgnpkffdiopaaaLa
import Derived.Deep.RegionHeld3
import Derived.WalkSpells
import Derived.Laws.BytesArg
import Derived.KernelRfl
import Derived.WalkSmall
namespace Go.Proofs.Ytdgnpkffdiopaaa
open Go.RowKit
set_option linter.unusedSimpArgs false
set_option linter.unusedVariables false

theorem conv1 (W : World) (v : Int) (t : TypeId) : (convert 64 9 (.slice (some ⟨W.heap.size, 0, none⟩) 1 1)).run Try.prog (W.alloc (.cells #[.int .u8 v] t)) = .ok (.string ⟨#[UInt8.ofNat v.toNat]⟩) (W.alloc (.cells #[.int .u8 v] t)) := by
  rw [run_convert_bytes_arg _ 64 5 Try.underlying64 Try.underlying5 W.heap.size 0 1 1 [v] rfl (fun i hi => by
    obtain rfl : i = 0 := by omega
    simp) 9 Try.underlying9]
  rfl
set_option maxRecDepth 100000 in
theorem markText_n (k : Nat) (w : World) (h1 : 1 ≤ k) (h2 : k ≤ 4611686018427387904) :
    Calls Try.prog 58 #[.int .i64 k] w fun e w' => e = .returned (.string (mtext k)) ∧ Below w.heap.size w w' := by
  have h0 : (0 : Int) < k := by omega
  have cv := fun W v => conv1 W v 5
  go_enter Try.func58, Try.ntmps58
  go_wp2_with fail
  go_loopw [0, 3] (fun n s wr => ∃ (j q : Nat) (l : List UInt8), n = .int .i64 q ∧ s = .string ⟨l.toArray⟩ ∧ l.length ≤ j ∧ j ≤ 64 ∧ q < 2 ^ (64 - j) ∧ q ≤ 4611686018427387904 ∧ Hid (mtB (64 - j) q ++ l = mtB 64 k) ∧ Below w.heap.size w wr) (fun n _ _ => (intOf n).toNat)
  case atStart => exact ⟨0, k, [], rfl, rfl, by simp, by omega, by omega, h2, by simp [Hid], Below.refl _ _⟩
  case round =>
    obtain ⟨j, q, l, rfl, rfl, hj, hj2, hq, hq2, hm, hb⟩ := hrel
    by_cases hlt : q = 0
    · subst hlt
      have e0 : Hid (l = mtB 64 k) := by
        have := hm.out
        show _ = _
        cases h : 64 - j <;> simpa [h, mtB] using this
      go_wp2
      go_ret
      refine ⟨ret_eq ?_, hb⟩
      rw [e0.out, mtext, if_neg (by omega)]
      simp only [Int.toNat_natCast]
      rfl
    · have hq0 : (0 : Int) < q := by omega
      obtain ⟨m, hm2⟩ : ∃ m, 64 - j = m + 1 := ⟨64 - j - 1, by
        have : 64 - j ≠ 0 := fun h => by rw [h] at hq; simp at hq; omega
        omega⟩
      have e1 : Hid (mtB (64 - (j + 1)) (q / 10) ++ ((48 + UInt8.ofNat (q % 10)) :: l) = mtB 64 k) := by
        have h := hm.out
        rw [hm2, mtB, if_neg hlt] at h
        rw [show 64 - (j + 1) = m by omega]
        show _ = _
        rw [← h]; simp
      have e2 : q / 10 < 2 ^ (64 - (j + 1)) := by
        rw [hm2, Nat.pow_succ] at hq
        rw [show 64 - (j + 1) = m by omega]; omega
      have hj3 : j + 1 ≤ 64 := by omega
      have hz := hb.size
      clear hm2
      go_wp2
      refine ⟨⟨j + 1, q / 10, (48 + UInt8.ofNat (q % 10)) :: l, by go_num, rfl, by simp; omega, hj3, e2, by omega, e1, (by repeat' (first | assumption | exact Below.refl _ _ | (refine Below.alloc ?_ (by first | exact Nat.le_refl _ | omega | (simp; done) | (simp; omega)) _) | refine Below.drew ?_ | (refine below_drewN ?_ _) | (refine Below.setCell ?_ (by first | exact Nat.le_refl _ | omega | (simp; done) | (simp; omega)) _)))⟩, by simp [intOf]; omega⟩
theorem markText_c (k : Int) (w : World) (h1 : 1 ≤ k) (h2 : k ≤ 4611686018427387904) :
    Calls Try.prog 58 #[.int .i64 k] w fun e w' => e = .returned (.string (mtext k)) ∧ Below w.heap.size w w' := by
  obtain ⟨n, rfl⟩ := Int.eq_ofNat_of_zero_le (show 0 ≤ k by omega)
  exact markText_n n w (by omega) (by omega)
set_option maxHeartbeats 2000000 in
theorem markInt64S_c (xs : List Int) (e : TypeId) (F : List Nat) (v : Value) (k : Int) (w : World) (H : Ow kInt e w F v xs) (h1 : 1 ≤ k) (h2 : k + cnL cn1 xs ≤ 4611686018427387904) :
    Calls Try.prog 18 #[v, .int .i64 k] w fun e' w' => ∃ F', e' = .returned (.int .i64 (k + cnL cn1 xs)) ∧ Ow kInt e w' F' v (mkL mkI cn1 xs k) ∧ (∀ b ∈ F', b ∈ F) ∧ Keep F w w' := by
  obtain ⟨A, c, rfl⟩ := H.slice
  have hm := H.rd.2.1
  have hn := H.rd.2.2.1
  unfold maxLen at hn
  go_enter Try.func18, Try.ntmps18
  go_wp2_with fail
  go_loopw [1, 5] (fun q i wr => ∃ (j : Nat) (F' : List Nat), j ≤ xs.length ∧ i = .int .i64 j ∧ q = .int .i64 (k + cnL cn1 (xs.take j)) ∧ Ow kInt e wr F' (.slice A xs.length c) (mkTo mkI cn1 xs k j) ∧ (∀ b ∈ F', b ∈ F) ∧ Keep F w wr) (fun _ i _ => xs.length - (intOf i).toNat)
  case atStart => exact ⟨0, F, by omega, rfl, by simp [cnL], by rw [mkTo_zero]; exact H, fun _ h => h, Keep.refl _ _⟩
  case round =>
    obtain ⟨j, F', hj, rfl, rfl, ho, hF, hb⟩ := hrel
    by_cases hlt : j < xs.length
    · have hc0 := cnL_nonneg cn1_nonneg (xs.take j)
      have hc1 := cnL_take_le cn1_nonneg xs (j + 1)
      have hc2 : Hid (cnL cn1 (xs.take (j + 1)) = cnL cn1 (xs.take j) + cn1 xs[j]) := cnL_take_succ xs hlt
      rw [hc2.out] at hc1
      have hl : Hid ((mkTo mkI cn1 xs k j).length = xs.length) := mkTo_length xs k hj
      have hlt' : j < (mkTo mkI cn1 xs k j).length := by rw [hl.out]; exact hlt
      have hget : Hid ((mkTo mkI cn1 xs k j)[j] = xs[j]) := mkTo_get xs k hlt
      have hsucc : Hid ((mkTo mkI cn1 xs k j).set j (mkI xs[j] (k + cnL cn1 (xs.take j))) = mkTo mkI cn1 xs k (j + 1)) := mkTo_succ xs k hlt
      have hnext : Hid (k + cnL cn1 (xs.take (j + 1)) = k + cnL cn1 (xs.take j) + cn1 xs[j]) := by show _ = _; rw [hc2.out]; omega
      have hq1 : 1 ≤ k + cnL cn1 (xs.take j) := by omega
      have hq2 : k + cnL cn1 (xs.take j) + cn1 xs[j] ≤ 4611686018427387904 := by omega
      clear hc2 hc0 hc1
      generalize mkTo mkI cn1 xs k j = ys at *
      generalize k + cnL cn1 (xs.take j) = q at *
      generalize hy : xs[j] = y at *
      have hy' := Lib.hid hy
      clear hy
      obtain ⟨g, rfl, hgF, hg⟩ := ho.pos (by decide) (by omega)
      have hcn : Hid (cn1 y = 1) := rfl
      rw [hcn.out] at hq2
      have hg0 := hget
      -- y
      have hlx1 : j < (ys).length := by first | exact hlt' | (simp; exact hlt')
      have cf1 := ho.cellAt (by decide) hlx1 (j := 0) (by decide)
      obtain ⟨u1, cf1⟩ := cf1
      have ff1 := ho.free (j)
      simp only [kInt_sz] at cf1 ff1
      simp only [Nat.add_zero, Nat.mul_one] at cf1
      replace ho := ho.setf (by decide) hlx1 (j := 0) (by decide) (y := q) (u := .int .i64 (q)) (by rw [hg0.out]; intro Fk cs h; exact ⟨h.1, by rw [h.2]; rfl⟩)
      simp only [kInt_sz] at ho
      simp only [Nat.add_zero, Nat.mul_one] at ho
      replace hb := hb.trans (Keep.setCell (a := ⟨g, j, none⟩) (hF g hgF) (.int .i64 (q)))
      have hg1 : Hid ((ys.set j (q))[j]'(by simp; exact hlt') = q) := by show _ = _; simp
      have hfin : Hid ((ys.set j (q)) = mkTo mkI cn1 xs k (j + 1)) := by show _ = _; rw [← hsucc.out]; rfl
      rw [hfin.out] at ho
      go_wp2
      go_roundw
      case rel => exact ⟨j + 1, _, by omega, by go_num, by rw [hnext.out, hcn.out]; first | done | rfl | go_num | (simp only [Int.add_assoc]; go_num), ho, hF, hb⟩
      case measure => simp [intOf]; omega
    · obtain rfl : j = xs.length := by omega
      rw [mkTo_all] at ho
      go_wp2
      go_ret
      exact ⟨F', by simp, ho, hF, hb⟩
set_option maxHeartbeats 2000000 in
theorem markStoredS_c (xs : List DStored) (e : TypeId) (F : List Nat) (v : Value) (k : Int) (w : World) (H : Ow kStored e w F v xs) (h1 : 1 ≤ k) (h2 : k + cnL cnStored xs ≤ 4611686018427387904) :
    Calls Try.prog 44 #[v, .int .i64 k] w fun e' w' => ∃ F', e' = .returned (.int .i64 (k + cnL cnStored xs)) ∧ Ow kStored e w' F' v (mkL mkStored cnStored xs k) ∧ (∀ b ∈ F', b ∈ F) ∧ Keep F w w' := by
  obtain ⟨A, c, rfl⟩ := H.slice
  have hm := H.rd.2.1
  have hn := H.rd.2.2.1
  unfold maxLen at hn
  go_enter Try.func44, Try.ntmps44
  go_wp2_with fail
  go_loopw [1, 5] (fun q i wr => ∃ (j : Nat) (F' : List Nat), j ≤ xs.length ∧ i = .int .i64 j ∧ q = .int .i64 (k + cnL cnStored (xs.take j)) ∧ Ow kStored e wr F' (.slice A xs.length c) (mkTo mkStored cnStored xs k j) ∧ (∀ b ∈ F', b ∈ F) ∧ Keep F w wr) (fun _ i _ => xs.length - (intOf i).toNat)
  case atStart => exact ⟨0, F, by omega, rfl, by simp [cnL], by rw [mkTo_zero]; exact H, fun _ h => h, Keep.refl _ _⟩
  case round =>
    obtain ⟨j, F', hj, rfl, rfl, ho, hF, hb⟩ := hrel
    by_cases hlt : j < xs.length
    · have hc0 := cnL_nonneg cnStored_nonneg (xs.take j)
      have hc1 := cnL_take_le cnStored_nonneg xs (j + 1)
      have hc2 : Hid (cnL cnStored (xs.take (j + 1)) = cnL cnStored (xs.take j) + cnStored xs[j]) := cnL_take_succ xs hlt
      rw [hc2.out] at hc1
      have hl : Hid ((mkTo mkStored cnStored xs k j).length = xs.length) := mkTo_length xs k hj
      have hlt' : j < (mkTo mkStored cnStored xs k j).length := by rw [hl.out]; exact hlt
      have hget : Hid ((mkTo mkStored cnStored xs k j)[j] = xs[j]) := mkTo_get xs k hlt
      have hsucc : Hid ((mkTo mkStored cnStored xs k j).set j (mkStored xs[j] (k + cnL cnStored (xs.take j))) = mkTo mkStored cnStored xs k (j + 1)) := mkTo_succ xs k hlt
      have hnext : Hid (k + cnL cnStored (xs.take (j + 1)) = k + cnL cnStored (xs.take j) + cnStored xs[j]) := by show _ = _; rw [hc2.out]; omega
      have hq1 : 1 ≤ k + cnL cnStored (xs.take j) := by omega
      have hq2 : k + cnL cnStored (xs.take j) + cnStored xs[j] ≤ 4611686018427387904 := by omega
      clear hc2 hc0 hc1
      generalize mkTo mkStored cnStored xs k j = ys at *
      generalize k + cnL cnStored (xs.take j) = q at *
      generalize hy : xs[j] = y at *
      have hy' := Lib.hid hy
      clear hy
      obtain ⟨g, rfl, hgF, hg⟩ := ho.pos (by decide) (by omega)
      have hcn : Hid (cnStored y = 3) := rfl
      rw [hcn.out] at hq2
      have hg0 := hget
      -- y.name
      go_wp2_with fail
      refine (markText_c _ _ (by omega) (by omega)).mono ?_
      rintro e1 w1 ⟨rfl, hb1⟩
      replace ho := ho.below hb1
      replace hb := hb.step hb1
      have hlx1 : j < (ys).length := by first | exact hlt' | (simp; exact hlt')
      have cf1 := ho.cellAt (by decide) hlx1 (j := 0) (by decide)
      obtain ⟨u1, cf1⟩ := cf1
      have ff1 := ho.free (j * 3)
      simp only [kStored_sz] at cf1 ff1
      simp only [Nat.add_zero] at cf1
      replace ho := ho.setf (by decide) hlx1 (j := 0) (by decide) (y := ⟨mtext (q), y.text, y.synced⟩) (u := .string (mtext (q))) (by rw [hg0.out]; intro Fk cs h; exact ⟨h.1, by rw [h.2]; rfl⟩)
      simp only [kStored_sz] at ho
      simp only [Nat.add_zero] at ho
      replace hb := hb.trans (Keep.setCell (a := ⟨g, j * 3, none⟩) (hF g hgF) (.string (mtext (q))))
      have hg1 : Hid ((ys.set j (⟨mtext (q), y.text, y.synced⟩))[j]'(by simp; exact hlt') = ⟨mtext (q), y.text, y.synced⟩) := by show _ = _; simp
      -- y.text
      go_wp2_with fail
      refine (markText_c _ _ (by omega) (by omega)).mono ?_
      rintro e1 w2 ⟨rfl, hb2⟩
      replace ho := ho.below hb2
      replace hb := hb.step hb2
      have hlx2 : j < (ys.set j (⟨mtext (q), y.text, y.synced⟩)).length := by first | exact hlt' | (simp; exact hlt')
      have cf2 := ho.cellAt (by decide) hlx2 (j := 1) (by decide)
      obtain ⟨u2, cf2⟩ := cf2
      have ff2 := ho.free (j * 3 + 1)
      simp only [kStored_sz] at cf2 ff2
      replace ho := ho.setf (by decide) hlx2 (j := 1) (by decide) (y := ⟨mtext (q), mtext (q + 1), y.synced⟩) (u := .string (mtext (q + 1))) (by rw [hg1.out]; intro Fk cs h; exact ⟨h.1, by rw [h.2]; rfl⟩)
      simp only [kStored_sz] at ho
      rw [List.set_set] at ho
      replace hb := hb.trans (Keep.setCell (a := ⟨g, j * 3 + 1, none⟩) (hF g hgF) (.string (mtext (q + 1))))
      have hg2 : Hid ((ys.set j (⟨mtext (q), mtext (q + 1), y.synced⟩))[j]'(by simp; exact hlt') = ⟨mtext (q), mtext (q + 1), y.synced⟩) := by show _ = _; simp
      -- y.synced
      have hlx3 : j < (ys.set j (⟨mtext (q), mtext (q + 1), y.synced⟩)).length := by first | exact hlt' | (simp; exact hlt')
      have cf3 := ho.cellAt (by decide) hlx3 (j := 2) (by decide)
      obtain ⟨u3, cf3⟩ := cf3
      have ff3 := ho.free (j * 3 + 2)
      simp only [kStored_sz] at cf3 ff3
      replace ho := ho.setf (by decide) hlx3 (j := 2) (by decide) (y := ⟨mtext (q), mtext (q + 1), q + 1 + 1⟩) (u := .int .i64 (q + 1 + 1)) (by rw [hg2.out]; intro Fk cs h; exact ⟨h.1, by rw [h.2]; rfl⟩)
      simp only [kStored_sz] at ho
      rw [List.set_set] at ho
      replace hb := hb.trans (Keep.setCell (a := ⟨g, j * 3 + 2, none⟩) (hF g hgF) (.int .i64 (q + 1 + 1)))
      have hg3 : Hid ((ys.set j (⟨mtext (q), mtext (q + 1), q + 1 + 1⟩))[j]'(by simp; exact hlt') = ⟨mtext (q), mtext (q + 1), q + 1 + 1⟩) := by show _ = _; simp
      have hfin : Hid ((ys.set j (⟨mtext (q), mtext (q + 1), q + 1 + 1⟩)) = mkTo mkStored cnStored xs k (j + 1)) := by show _ = _; rw [← hsucc.out]; rfl
      rw [hfin.out] at ho
      go_wp2
      go_roundw
      case rel => exact ⟨j + 1, _, by omega, by go_num, by rw [hnext.out, hcn.out]; first | done | rfl | go_num | (simp only [Int.add_assoc]; go_num), ho, hF, hb⟩
      case measure => simp [intOf]; omega
    · obtain rfl : j = xs.length := by omega
      rw [mkTo_all] at ho
      go_wp2
      go_ret
      exact ⟨F', by simp, ho, hF, hb⟩
set_option maxHeartbeats 2000000 in
theorem heldStoredS_c (xs : List DStored) (A : Option Addr) (c : Nat) (k : Int) (w : World) (H : Rd kStored w A c (mkL mkStored cnStored xs k)) (h1 : 1 ≤ k) (h2 : k + cnL cnStored xs ≤ 4611686018427387904) :
    Calls Try.prog 45 #[.slice A xs.length c, .int .i64 k] w fun e' w' => e' = .returned (.int .i64 (k + cnL cnStored xs)) ∧ Below w.heap.size w w' := by
  have hm := H.1
  have hn := H.2.1
  unfold maxLen at hn
  rw [mkL_length] at hm
  go_enter Try.func45, Try.ntmps45
  go_wp2_with fail
  go_loopw [1, 5] (fun q i wr => ∃ (j : Nat), j ≤ xs.length ∧ i = .int .i64 j ∧ q = .int .i64 (k + cnL cnStored (xs.take j)) ∧ Below w.heap.size w wr) (fun _ i _ => xs.length - (intOf i).toNat)
  case atStart => exact ⟨0, by omega, rfl, by simp [cnL], Below.refl _ _⟩
  case round =>
    obtain ⟨j, hj, rfl, rfl, hb⟩ := hrel
    by_cases hlt : j < xs.length
    · have hc0 := cnL_nonneg cnStored_nonneg (xs.take j)
      have hc1 := cnL_take_le cnStored_nonneg xs (j + 1)
      have hc2 : Hid (cnL cnStored (xs.take (j + 1)) = cnL cnStored (xs.take j) + cnStored xs[j]) := cnL_take_succ xs hlt
      rw [hc2.out] at hc1
      have hnext : Hid (k + cnL cnStored (xs.take (j + 1)) = k + cnL cnStored (xs.take j) + cnStored xs[j]) := by show _ = _; rw [hc2.out]; omega
      have hlm : j < (mkL mkStored cnStored xs k).length := by rw [mkL_length]; exact hlt
      have hget : (mkL mkStored cnStored xs k)[j] = mkStored xs[j] (k + cnL cnStored (xs.take j)) := mkL_get xs k hlt
      have hq1 : 1 ≤ k + cnL cnStored (xs.take j) := by omega
      have hq2 : k + cnL cnStored (xs.take j) + cnStored xs[j] ≤ 4611686018427387904 := by omega
      clear hc2 hc0 hc1
      obtain ⟨b, o, rfl, ha, g0, g1, g2⟩ := rdStored (H.below hb) hlm
      rw [hget] at g0 g1 g2
      clear hget hlm H
      generalize k + cnL cnStored (xs.take j) = q at *
      generalize xs[j] = y at *
      have hcn : Hid (cnStored y = 3) := rfl
      rw [hcn.out] at hq2
      have hk0 : (0 : Int) ≤ (j : Int) := Int.natCast_nonneg _
      have hk1 : (j : Int) < (xs.length : Int) := by omega
      have hz := hb.size
      replace g0 : wr.cell? ⟨b, o + j * 3, none⟩ = some (.string (mtext (q))) := g0
      replace g1 : wr.cell? ⟨b, o + j * 3 + 1, none⟩ = some (.string (mtext (q + 1))) := g1
      replace g2 : wr.cell? ⟨b, o + j * 3 + 2, none⟩ = some (.int .i64 (q + 1 + 1)) := g2
      have hbr : Below wr.heap.size wr wr := Below.refl _ _
      -- y.name
      go_wp2_with fail
      go_region_held3 (fun w' => Below w.heap.size w w' ∧ Below wr.heap.size wr w' ∧ w'.cell? ⟨b, o + j * 3, none⟩ = some (Value.string (mtext (q))) ∧ w'.cell? ⟨b, o + j * 3 + 1, none⟩ = some (Value.string (mtext (q + 1))) ∧ w'.cell? ⟨b, o + j * 3 + 2, none⟩ = some (Value.int .i64 (q + 1 + 1)))
        ((go_split_ands; (repeat' apply And.intro) <;> first | go_keep | exact Below.refl _ _ | exact Below.drew (by assumption) | exact Below.drew (Below.refl _ _) | exact Below.step (by assumption) hb1 | exact cell_later hb1 (by assumption)))
        ((go_at_call 58; refine (markText_c _ _ (by omega) (by omega)).mono ?_; rintro e w1 ⟨rfl, hb1⟩))
      go_split_ands
      -- y.text
      go_wp2_with fail
      go_region_held3 (fun w' => Below w.heap.size w w' ∧ Below wr.heap.size wr w' ∧ w'.cell? ⟨b, o + j * 3, none⟩ = some (Value.string (mtext (q))) ∧ w'.cell? ⟨b, o + j * 3 + 1, none⟩ = some (Value.string (mtext (q + 1))) ∧ w'.cell? ⟨b, o + j * 3 + 2, none⟩ = some (Value.int .i64 (q + 1 + 1)))
        ((go_split_ands; (repeat' apply And.intro) <;> first | go_keep | exact Below.refl _ _ | exact Below.drew (by assumption) | exact Below.drew (Below.refl _ _) | exact Below.step (by assumption) hb1 | exact cell_later hb1 (by assumption)))
        ((go_at_call 58; refine (markText_c _ _ (by omega) (by omega)).mono ?_; rintro e w1 ⟨rfl, hb1⟩))
      go_split_ands
      go_wp2
      go_roundw
      case rel => exact ⟨j + 1, by omega, by go_num, by rw [hnext.out, hcn.out]; first | done | rfl | go_num | (simp only [Int.add_assoc]; go_num), by assumption⟩
      case measure => simp [intOf]; omega
    · obtain rfl : j = xs.length := by omega
      go_wp2
      go_ret
      exact ⟨by simp, hb⟩
set_option maxHeartbeats 1000000 in
theorem markDrive_c (x : DDrive) (F0 : List Nat) (v0 : Value) (k : Int) (w : World) (O0 : Ow kStored 62 w F0 v0 x.files) (h1 : 1 ≤ k) (h2 : k + cnL cnStored x.files ≤ 4611686018427387904) :
    Calls Try.prog 12 #[.agg #[v0, .int .i64 x.room], .int .i64 k] w fun e w' => ∃ F'0, e = .returned (.int .i64 (k + cnL cnStored x.files)) ∧ Ow kStored 62 w' F'0 v0 (mkL mkStored cnStored x.files (k)) ∧ (∀ b ∈ F'0, b ∈ F0) ∧ Keep (F0) w w' := by
  obtain ⟨a0, d0, rfl⟩ := O0.slice
  have n0 := cnL_nonneg cnStored_nonneg x.files
  go_enter Try.func12, Try.ntmps12
  go_wp2_with (go_at_call 44; refine (markStoredS_c x.files _ F0 _ _ _ (O0.below (by repeat' (first | assumption | exact Below.refl _ _ | (refine Below.alloc ?_ (by first | exact Nat.le_refl _ | omega | (simp; done) | (simp; omega)) _) | refine Below.drew ?_ | (refine below_drewN ?_ _) | (refine Below.setCell ?_ (by first | exact Nat.le_refl _ | omega | (simp; done) | (simp; omega)) _)))) (by omega) (by omega)).mono ?_; rintro e w1 ⟨G0, rfl, p0, s0, kp⟩)
  go_ret
  exact ⟨G0, rfl, p0, s0, (Keep.of_below (by repeat' (first | assumption | exact Below.refl _ _ | (refine Below.alloc ?_ (by first | exact Nat.le_refl _ | omega | (simp; done) | (simp; omega)) _) | refine Below.drew ?_ | (refine below_drewN ?_ _) | (refine Below.setCell ?_ (by first | exact Nat.le_refl _ | omega | (simp; done) | (simp; omega)) _)))).trans kp⟩
set_option maxHeartbeats 1000000 in
theorem heldDrive_c (x : DDrive) (A0 : Option Addr) (c0 : Nat) (k : Int) (w : World) (H0 : Rd kStored w A0 c0 (mkL mkStored cnStored x.files (k))) (h1 : 1 ≤ k) (h2 : k + cnL cnStored x.files ≤ 4611686018427387904) :
    Calls Try.prog 13 #[.agg #[.slice A0 x.files.length c0, .int .i64 x.room], .int .i64 k] w fun e w' => e = .returned (.int .i64 (k + cnL cnStored x.files)) ∧ Below w.heap.size w w' := by
  have n0 := cnL_nonneg cnStored_nonneg x.files
  go_enter Try.func13, Try.ntmps13
  go_wp2_with (first | (go_at_call 45; refine (heldStoredS_c x.files _ _ _ _ (H0.below (by repeat' (first | assumption | exact Below.refl _ _ | (refine Below.alloc ?_ (by first | exact Nat.le_refl _ | omega | (simp; done) | (simp; omega)) _) | refine Below.drew ?_ | (refine below_drewN ?_ _) | (refine Below.setCell ?_ (by first | exact Nat.le_refl _ | omega | (simp; done) | (simp; omega)) _)))) (by omega) (by omega)).mono ?_; rintro e w1 ⟨rfl, hb1⟩; have hB1 : Below w.heap.size w w1 := Below.step (by repeat' (first | assumption | exact Below.refl _ _ | (refine Below.alloc ?_ (by first | exact Nat.le_refl _ | omega | (simp; done) | (simp; omega)) _) | refine Below.drew ?_ | (refine below_drewN ?_ _) | (refine Below.setCell ?_ (by first | exact Nat.le_refl _ | omega | (simp; done) | (simp; omega)) _))) hb1; have hc1 := fun (a : Addr) (h : a.block < _) => hb1.cell (p := a) h; have hf1 := fun (a : Addr) (h : a.block < _) => hb1.frozen (p := a) h; have hz1 := hb1.size; have hb1' := Lib.hid hb1; clear hb1))
  go_ret
  exact ⟨rfl, (by repeat' (first | assumption | exact Below.refl _ _ | (refine Below.alloc ?_ (by first | exact Nat.le_refl _ | omega | (simp; done) | (simp; omega)) _) | refine Below.drew ?_ | (refine below_drewN ?_ _) | (refine Below.setCell ?_ (by first | exact Nat.le_refl _ | omega | (simp; done) | (simp; omega)) _)))⟩
set_option maxHeartbeats 2000000 in
theorem markDriveS_c (xs : List DDrive) (e : TypeId) (F : List Nat) (v : Value) (k : Int) (w : World) (H : Ow kDrive e w F v xs) (h1 : 1 ≤ k) (h2 : k + cnL cnDrive xs ≤ 4611686018427387904) :
    Calls Try.prog 57 #[v, .int .i64 k] w fun e' w' => ∃ F', e' = .returned (.int .i64 (k + cnL cnDrive xs)) ∧ Ow kDrive e w' F' v (mkL mkDrive cnDrive xs k) ∧ (∀ b ∈ F', b ∈ F) ∧ Keep F w w' := by
  obtain ⟨A, c, rfl⟩ := H.slice
  have hm := H.rd.2.1
  have hn := H.rd.2.2.1
  unfold maxLen at hn
  go_enter Try.func57, Try.ntmps57
  go_wp2_with fail
  go_loopw [1, 5] (fun q i wr => ∃ (j : Nat) (F' : List Nat), j ≤ xs.length ∧ i = .int .i64 j ∧ q = .int .i64 (k + cnL cnDrive (xs.take j)) ∧ Ow kDrive e wr F' (.slice A xs.length c) (mkTo mkDrive cnDrive xs k j) ∧ (∀ b ∈ F', b ∈ F) ∧ Keep F w wr) (fun _ i _ => xs.length - (intOf i).toNat)
  case atStart => exact ⟨0, F, by omega, rfl, by simp [cnL], by rw [mkTo_zero]; exact H, fun _ h => h, Keep.refl _ _⟩
  case round =>
    obtain ⟨j, F', hj, rfl, rfl, ho, hF, hb⟩ := hrel
    by_cases hlt : j < xs.length
    · have hc0 := cnL_nonneg cnDrive_nonneg (xs.take j)
      have hc1 := cnL_take_le cnDrive_nonneg xs (j + 1)
      have hc2 : Hid (cnL cnDrive (xs.take (j + 1)) = cnL cnDrive (xs.take j) + cnDrive xs[j]) := cnL_take_succ xs hlt
      rw [hc2.out] at hc1
      have hl : Hid ((mkTo mkDrive cnDrive xs k j).length = xs.length) := mkTo_length xs k hj
      have hlt' : j < (mkTo mkDrive cnDrive xs k j).length := by rw [hl.out]; exact hlt
      have hget : Hid ((mkTo mkDrive cnDrive xs k j)[j] = xs[j]) := mkTo_get xs k hlt
      have hsucc : Hid ((mkTo mkDrive cnDrive xs k j).set j (mkDrive xs[j] (k + cnL cnDrive (xs.take j))) = mkTo mkDrive cnDrive xs k (j + 1)) := mkTo_succ xs k hlt
      have hnext : Hid (k + cnL cnDrive (xs.take (j + 1)) = k + cnL cnDrive (xs.take j) + cnDrive xs[j]) := by show _ = _; rw [hc2.out]; omega
      have hq1 : 1 ≤ k + cnL cnDrive (xs.take j) := by omega
      have hq2 : k + cnL cnDrive (xs.take j) + cnDrive xs[j] ≤ 4611686018427387904 := by omega
      clear hc2 hc0 hc1
      generalize mkTo mkDrive cnDrive xs k j = ys at *
      generalize k + cnL cnDrive (xs.take j) = q at *
      generalize hy : xs[j] = y at *
      have hy' := Lib.hid hy
      clear hy
      obtain ⟨g, rfl, hgF, hg⟩ := ho.pos (by decide) (by omega)
      have hcn : Hid (cnDrive y = 1 + cnL cnStored y.files) := rfl
      rw [hcn.out] at hq2
      have hn_y_files := cnL_nonneg cnStored_nonneg y.files
      have hg0 := hget
      -- y.files
      have hlx1 : j < (ys).length := by first | exact hlt' | (simp; exact hlt')
      obtain ⟨Fk, cs, hO, hcell, hsub, hgk, hback⟩ := ho.inner (by decide) hlx1
      rw [hg0.out] at hO
      obtain ⟨v0, F0, rfl, ho0, rfl⟩ := kDrive_O hO
      obtain ⟨a0, d0, rfl⟩ := ho0.slice
      have q1 := hcell 0 _ rfl
      simp only [kDrive_sz] at q1
      simp only [Nat.add_zero] at q1
      go_wp2_with fail
      refine (markStoredS_c y.files _ _ _ _ _ ho0 (by omega) (by omega)).mono ?_
      rintro e1 w1 ⟨Fn, rfl, hon, hsubn, hkn⟩
      obtain ⟨F2, ho2, hs2⟩ := hback w1 (⟨mkL mkStored cnStored y.files (q), y.room⟩) Fn hkn (kDrive_mk hon) hsubn
      replace hb := hb.trans (hkn.mono (fun b hb => hF b (hsub b hb)))
      replace hF : ∀ b ∈ F2, b ∈ F := fun b hb => hF b (hs2 b hb)
      replace hgF : g ∈ F2 := by obtain ⟨_, g', e2, hm', _⟩ := ho2.head; cases e2; exact hm'
      clear ho hO hcell hsub hgk hback hs2 hsubn hkn hon ho0 q1
      have ho := ho2
      clear ho2
      have hg1 : Hid ((ys.set j ⟨mkL mkStored cnStored y.files (q), y.room⟩)[j]'(by simp; exact hlt') = ⟨mkL mkStored cnStored y.files (q), y.room⟩) := by show _ = _; simp
      -- y.room
      have hlx2 : j < (ys.set j ⟨mkL mkStored cnStored y.files (q), y.room⟩).length := by first | exact hlt' | (simp; exact hlt')
      have cf2 := ho.cellAt (by decide) hlx2 (j := 1) (by decide)
      obtain ⟨u2, cf2⟩ := cf2
      have ff2 := ho.free (j * 2 + 1)
      simp only [kDrive_sz] at cf2 ff2
      replace ho := ho.setf (by decide) hlx2 (j := 1) (by decide) (y := ⟨mkL mkStored cnStored y.files (q), q + cnL cnStored y.files⟩) (u := .int .i64 (q + cnL cnStored y.files)) (by rw [hg1.out]; intro Fk cs h; exact kDrive_set1 h)
      simp only [kDrive_sz] at ho
      rw [List.set_set] at ho
      replace hb := hb.trans (Keep.setCell (a := ⟨g, j * 2 + 1, none⟩) (hF g hgF) (.int .i64 (q + cnL cnStored y.files)))
      have hg2 : Hid ((ys.set j (⟨mkL mkStored cnStored y.files (q), q + cnL cnStored y.files⟩))[j]'(by simp; exact hlt') = ⟨mkL mkStored cnStored y.files (q), q + cnL cnStored y.files⟩) := by show _ = _; simp
      have hfin : Hid ((ys.set j (⟨mkL mkStored cnStored y.files (q), q + cnL cnStored y.files⟩)) = mkTo mkDrive cnDrive xs k (j + 1)) := by show _ = _; rw [← hsucc.out]; rfl
      rw [hfin.out] at ho
      go_wp2
      go_roundw
      case rel => exact ⟨j + 1, _, by omega, by go_num, by rw [hnext.out, hcn.out]; first | done | rfl | go_num | (simp only [Int.add_assoc]; go_num), ho, hF, hb⟩
      case measure => simp [intOf]; omega
    · obtain rfl : j = xs.length := by omega
      rw [mkTo_all] at ho
      go_wp2
      go_ret
      exact ⟨F', by simp, ho, hF, hb⟩
set_option maxHeartbeats 1000000 in
theorem markArray_c (x : DArray) (F0 : List Nat) (v0 : Value) (k : Int) (w : World) (O0 : Ow kDrive 28 w F0 v0 x.drives) (h1 : 1 ≤ k) (h2 : k + cnL cnDrive x.drives ≤ 4611686018427387904) :
    Calls Try.prog 25 #[.agg #[.int .i64 x.k, .int .i64 x.m, v0], .int .i64 k] w fun e w' => ∃ F'0, e = .returned (.int .i64 (k + cnL cnDrive x.drives)) ∧ Ow kDrive 28 w' F'0 v0 (mkL mkDrive cnDrive x.drives (k)) ∧ (∀ b ∈ F'0, b ∈ F0) ∧ Keep (F0) w w' := by
  obtain ⟨a0, d0, rfl⟩ := O0.slice
  have n0 := cnL_nonneg cnDrive_nonneg x.drives
  go_enter Try.func25, Try.ntmps25
  go_wp2_with (go_at_call 57; refine (markDriveS_c x.drives _ F0 _ _ _ (O0.below (by repeat' (first | assumption | exact Below.refl _ _ | (refine Below.alloc ?_ (by first | exact Nat.le_refl _ | omega | (simp; done) | (simp; omega)) _) | refine Below.drew ?_ | (refine below_drewN ?_ _) | (refine Below.setCell ?_ (by first | exact Nat.le_refl _ | omega | (simp; done) | (simp; omega)) _)))) (by omega) (by omega)).mono ?_; rintro e w1 ⟨G0, rfl, p0, s0, kp⟩)
  go_ret
  exact ⟨G0, rfl, p0, s0, (Keep.of_below (by repeat' (first | assumption | exact Below.refl _ _ | (refine Below.alloc ?_ (by first | exact Nat.le_refl _ | omega | (simp; done) | (simp; omega)) _) | refine Below.drew ?_ | (refine below_drewN ?_ _) | (refine Below.setCell ?_ (by first | exact Nat.le_refl _ | omega | (simp; done) | (simp; omega)) _)))).trans kp⟩
set_option maxHeartbeats 2000000 in
theorem markStepS_c (xs : List DStep) (e : TypeId) (F : List Nat) (v : Value) (k : Int) (w : World) (H : Ow kStep e w F v xs) (h1 : 1 ≤ k) (h2 : k + cnL cnStep xs ≤ 4611686018427387904) :
    Calls Try.prog 26 #[v, .int .i64 k] w fun e' w' => ∃ F', e' = .returned (.int .i64 (k + cnL cnStep xs)) ∧ Ow kStep e w' F' v (mkL mkStep cnStep xs k) ∧ (∀ b ∈ F', b ∈ F) ∧ Keep F w w' := by
  obtain ⟨A, c, rfl⟩ := H.slice
  have hm := H.rd.2.1
  have hn := H.rd.2.2.1
  unfold maxLen at hn
  go_enter Try.func26, Try.ntmps26
  go_wp2_with fail
  go_loopw [1, 5] (fun q i wr => ∃ (j : Nat) (F' : List Nat), j ≤ xs.length ∧ i = .int .i64 j ∧ q = .int .i64 (k + cnL cnStep (xs.take j)) ∧ Ow kStep e wr F' (.slice A xs.length c) (mkTo mkStep cnStep xs k j) ∧ (∀ b ∈ F', b ∈ F) ∧ Keep F w wr) (fun _ i _ => xs.length - (intOf i).toNat)
  case atStart => exact ⟨0, F, by omega, rfl, by simp [cnL], by rw [mkTo_zero]; exact H, fun _ h => h, Keep.refl _ _⟩
  case round =>
    obtain ⟨j, F', hj, rfl, rfl, ho, hF, hb⟩ := hrel
    by_cases hlt : j < xs.length
    · have hc0 := cnL_nonneg cnStep_nonneg (xs.take j)
      have hc1 := cnL_take_le cnStep_nonneg xs (j + 1)
      have hc2 : Hid (cnL cnStep (xs.take (j + 1)) = cnL cnStep (xs.take j) + cnStep xs[j]) := cnL_take_succ xs hlt
      rw [hc2.out] at hc1
      have hl : Hid ((mkTo mkStep cnStep xs k j).length = xs.length) := mkTo_length xs k hj
      have hlt' : j < (mkTo mkStep cnStep xs k j).length := by rw [hl.out]; exact hlt
      have hget : Hid ((mkTo mkStep cnStep xs k j)[j] = xs[j]) := mkTo_get xs k hlt
      have hsucc : Hid ((mkTo mkStep cnStep xs k j).set j (mkStep xs[j] (k + cnL cnStep (xs.take j))) = mkTo mkStep cnStep xs k (j + 1)) := mkTo_succ xs k hlt
      have hnext : Hid (k + cnL cnStep (xs.take (j + 1)) = k + cnL cnStep (xs.take j) + cnStep xs[j]) := by show _ = _; rw [hc2.out]; omega
      have hq1 : 1 ≤ k + cnL cnStep (xs.take j) := by omega
      have hq2 : k + cnL cnStep (xs.take j) + cnStep xs[j] ≤ 4611686018427387904 := by omega
      clear hc2 hc0 hc1
      generalize mkTo mkStep cnStep xs k j = ys at *
      generalize k + cnL cnStep (xs.take j) = q at *
      generalize hy : xs[j] = y at *
      have hy' := Lib.hid hy
      clear hy
      obtain ⟨g, rfl, hgF, hg⟩ := ho.pos (by decide) (by omega)
      have hcn : Hid (cnStep y = 5) := rfl
      rw [hcn.out] at hq2
      have hg0 := hget
      -- y.drive
      have hlx1 : j < (ys).length := by first | exact hlt' | (simp; exact hlt')
      have cf1 := ho.cellAt (by decide) hlx1 (j := 0) (by decide)
      obtain ⟨u1, cf1⟩ := cf1
      have ff1 := ho.free (j * 5)
      simp only [kStep_sz] at cf1 ff1
      simp only [Nat.add_zero] at cf1
      replace ho := ho.setf (by decide) hlx1 (j := 0) (by decide) (y := ⟨q, ⟨y.op.kind, y.op.name, y.op.to_, y.op.text⟩⟩) (u := .int .i64 (q)) (by rw [hg0.out]; intro Fk cs h; exact ⟨h.1, by rw [h.2]; rfl⟩)
      simp only [kStep_sz] at ho
      simp only [Nat.add_zero] at ho
      replace hb := hb.trans (Keep.setCell (a := ⟨g, j * 5, none⟩) (hF g hgF) (.int .i64 (q)))
      have hg1 : Hid ((ys.set j (⟨q, ⟨y.op.kind, y.op.name, y.op.to_, y.op.text⟩⟩))[j]'(by simp; exact hlt') = ⟨q, ⟨y.op.kind, y.op.name, y.op.to_, y.op.text⟩⟩) := by show _ = _; simp
      -- y.op.kind
      have hlx2 : j < (ys.set j (⟨q, ⟨y.op.kind, y.op.name, y.op.to_, y.op.text⟩⟩)).length := by first | exact hlt' | (simp; exact hlt')
      have cf2 := ho.cellAt (by decide) hlx2 (j := 1) (by decide)
      obtain ⟨u2, cf2⟩ := cf2
      have ff2 := ho.free (j * 5 + 1)
      simp only [kStep_sz] at cf2 ff2
      replace ho := ho.setf (by decide) hlx2 (j := 1) (by decide) (y := ⟨q, ⟨q + 1, y.op.name, y.op.to_, y.op.text⟩⟩) (u := .int .i64 (q + 1)) (by rw [hg1.out]; intro Fk cs h; exact ⟨h.1, by rw [h.2]; rfl⟩)
      simp only [kStep_sz] at ho
      rw [List.set_set] at ho
      replace hb := hb.trans (Keep.setCell (a := ⟨g, j * 5 + 1, none⟩) (hF g hgF) (.int .i64 (q + 1)))
      have hg2 : Hid ((ys.set j (⟨q, ⟨q + 1, y.op.name, y.op.to_, y.op.text⟩⟩))[j]'(by simp; exact hlt') = ⟨q, ⟨q + 1, y.op.name, y.op.to_, y.op.text⟩⟩) := by show _ = _; simp
      -- y.op.name
      go_wp2_with fail
      refine (markText_c _ _ (by omega) (by omega)).mono ?_
      rintro e1 w3 ⟨rfl, hb3⟩
      replace ho := ho.below hb3
      replace hb := hb.step hb3
      have hlx3 : j < (ys.set j (⟨q, ⟨q + 1, y.op.name, y.op.to_, y.op.text⟩⟩)).length := by first | exact hlt' | (simp; exact hlt')
      have cf3 := ho.cellAt (by decide) hlx3 (j := 2) (by decide)
      obtain ⟨u3, cf3⟩ := cf3
      have ff3 := ho.free (j * 5 + 2)
      simp only [kStep_sz] at cf3 ff3
      replace ho := ho.setf (by decide) hlx3 (j := 2) (by decide) (y := ⟨q, ⟨q + 1, mtext (q + 1 + 1), y.op.to_, y.op.text⟩⟩) (u := .string (mtext (q + 1 + 1))) (by rw [hg2.out]; intro Fk cs h; exact ⟨h.1, by rw [h.2]; rfl⟩)
      simp only [kStep_sz] at ho
      rw [List.set_set] at ho
      replace hb := hb.trans (Keep.setCell (a := ⟨g, j * 5 + 2, none⟩) (hF g hgF) (.string (mtext (q + 1 + 1))))
      have hg3 : Hid ((ys.set j (⟨q, ⟨q + 1, mtext (q + 1 + 1), y.op.to_, y.op.text⟩⟩))[j]'(by simp; exact hlt') = ⟨q, ⟨q + 1, mtext (q + 1 + 1), y.op.to_, y.op.text⟩⟩) := by show _ = _; simp
      -- y.op.to_
      go_wp2_with fail
      refine (markText_c _ _ (by omega) (by omega)).mono ?_
      rintro e1 w4 ⟨rfl, hb4⟩
      replace ho := ho.below hb4
      replace hb := hb.step hb4
      have hlx4 : j < (ys.set j (⟨q, ⟨q + 1, mtext (q + 1 + 1), y.op.to_, y.op.text⟩⟩)).length := by first | exact hlt' | (simp; exact hlt')
      have cf4 := ho.cellAt (by decide) hlx4 (j := 3) (by decide)
      obtain ⟨u4, cf4⟩ := cf4
      have ff4 := ho.free (j * 5 + 3)
      simp only [kStep_sz] at cf4 ff4
      replace ho := ho.setf (by decide) hlx4 (j := 3) (by decide) (y := ⟨q, ⟨q + 1, mtext (q + 1 + 1), mtext (q + 1 + 1 + 1), y.op.text⟩⟩) (u := .string (mtext (q + 1 + 1 + 1))) (by rw [hg3.out]; intro Fk cs h; exact ⟨h.1, by rw [h.2]; rfl⟩)
      simp only [kStep_sz] at ho
      rw [List.set_set] at ho
      replace hb := hb.trans (Keep.setCell (a := ⟨g, j * 5 + 3, none⟩) (hF g hgF) (.string (mtext (q + 1 + 1 + 1))))
      have hg4 : Hid ((ys.set j (⟨q, ⟨q + 1, mtext (q + 1 + 1), mtext (q + 1 + 1 + 1), y.op.text⟩⟩))[j]'(by simp; exact hlt') = ⟨q, ⟨q + 1, mtext (q + 1 + 1), mtext (q + 1 + 1 + 1), y.op.text⟩⟩) := by show _ = _; simp
      -- y.op.text
      go_wp2_with fail
      refine (markText_c _ _ (by omega) (by omega)).mono ?_
      rintro e1 w5 ⟨rfl, hb5⟩
      replace ho := ho.below hb5
      replace hb := hb.step hb5
      have hlx5 : j < (ys.set j (⟨q, ⟨q + 1, mtext (q + 1 + 1), mtext (q + 1 + 1 + 1), y.op.text⟩⟩)).length := by first | exact hlt' | (simp; exact hlt')
      have cf5 := ho.cellAt (by decide) hlx5 (j := 4) (by decide)
      obtain ⟨u5, cf5⟩ := cf5
      have ff5 := ho.free (j * 5 + 4)
      simp only [kStep_sz] at cf5 ff5
      replace ho := ho.setf (by decide) hlx5 (j := 4) (by decide) (y := ⟨q, ⟨q + 1, mtext (q + 1 + 1), mtext (q + 1 + 1 + 1), mtext (q + 1 + 1 + 1 + 1)⟩⟩) (u := .string (mtext (q + 1 + 1 + 1 + 1))) (by rw [hg4.out]; intro Fk cs h; exact ⟨h.1, by rw [h.2]; rfl⟩)
      simp only [kStep_sz] at ho
      rw [List.set_set] at ho
      replace hb := hb.trans (Keep.setCell (a := ⟨g, j * 5 + 4, none⟩) (hF g hgF) (.string (mtext (q + 1 + 1 + 1 + 1))))
      have hg5 : Hid ((ys.set j (⟨q, ⟨q + 1, mtext (q + 1 + 1), mtext (q + 1 + 1 + 1), mtext (q + 1 + 1 + 1 + 1)⟩⟩))[j]'(by simp; exact hlt') = ⟨q, ⟨q + 1, mtext (q + 1 + 1), mtext (q + 1 + 1 + 1), mtext (q + 1 + 1 + 1 + 1)⟩⟩) := by show _ = _; simp
      have hfin : Hid ((ys.set j (⟨q, ⟨q + 1, mtext (q + 1 + 1), mtext (q + 1 + 1 + 1), mtext (q + 1 + 1 + 1 + 1)⟩⟩)) = mkTo mkStep cnStep xs k (j + 1)) := by show _ = _; rw [← hsucc.out]; rfl
      rw [hfin.out] at ho
      go_wp2
      go_roundw
      case rel => exact ⟨j + 1, _, by omega, by go_num, by rw [hnext.out, hcn.out]; first | done | rfl | go_num | (simp only [Int.add_assoc]; go_num), ho, hF, hb⟩
      case measure => simp [intOf]; omega
    · obtain rfl : j = xs.length := by omega
      rw [mkTo_all] at ho
      go_wp2
      go_ret
      exact ⟨F', by simp, ho, hF, hb⟩
set_option maxHeartbeats 2000000 in
theorem heldStepS_c (xs : List DStep) (A : Option Addr) (c : Nat) (k : Int) (w : World) (H : Rd kStep w A c (mkL mkStep cnStep xs k)) (h1 : 1 ≤ k) (h2 : k + cnL cnStep xs ≤ 4611686018427387904) :
    Calls Try.prog 27 #[.slice A xs.length c, .int .i64 k] w fun e' w' => e' = .returned (.int .i64 (k + cnL cnStep xs)) ∧ Below w.heap.size w w' := by
  have hm := H.1
  have hn := H.2.1
  unfold maxLen at hn
  rw [mkL_length] at hm
  go_enter Try.func27, Try.ntmps27
  go_wp2_with fail
  go_loopw [1, 5] (fun q i wr => ∃ (j : Nat), j ≤ xs.length ∧ i = .int .i64 j ∧ q = .int .i64 (k + cnL cnStep (xs.take j)) ∧ Below w.heap.size w wr) (fun _ i _ => xs.length - (intOf i).toNat)
  case atStart => exact ⟨0, by omega, rfl, by simp [cnL], Below.refl _ _⟩
  case round =>
    obtain ⟨j, hj, rfl, rfl, hb⟩ := hrel
    by_cases hlt : j < xs.length
    · have hc0 := cnL_nonneg cnStep_nonneg (xs.take j)
      have hc1 := cnL_take_le cnStep_nonneg xs (j + 1)
      have hc2 : Hid (cnL cnStep (xs.take (j + 1)) = cnL cnStep (xs.take j) + cnStep xs[j]) := cnL_take_succ xs hlt
      rw [hc2.out] at hc1
      have hnext : Hid (k + cnL cnStep (xs.take (j + 1)) = k + cnL cnStep (xs.take j) + cnStep xs[j]) := by show _ = _; rw [hc2.out]; omega
      have hlm : j < (mkL mkStep cnStep xs k).length := by rw [mkL_length]; exact hlt
      have hget : (mkL mkStep cnStep xs k)[j] = mkStep xs[j] (k + cnL cnStep (xs.take j)) := mkL_get xs k hlt
      have hq1 : 1 ≤ k + cnL cnStep (xs.take j) := by omega
      have hq2 : k + cnL cnStep (xs.take j) + cnStep xs[j] ≤ 4611686018427387904 := by omega
      clear hc2 hc0 hc1
      obtain ⟨b, o, rfl, ha, g0, g1, g2, g3, g4⟩ := rdStep (H.below hb) hlm
      rw [hget] at g0 g1 g2 g3 g4
      clear hget hlm H
      generalize k + cnL cnStep (xs.take j) = q at *
      generalize xs[j] = y at *
      have hcn : Hid (cnStep y = 5) := rfl
      rw [hcn.out] at hq2
      have hk0 : (0 : Int) ≤ (j : Int) := Int.natCast_nonneg _
      have hk1 : (j : Int) < (xs.length : Int) := by omega
      have hz := hb.size
      replace g0 : wr.cell? ⟨b, o + j * 5, none⟩ = some (.int .i64 (q)) := g0
      replace g1 : wr.cell? ⟨b, o + j * 5 + 1, none⟩ = some (.int .i64 (q + 1)) := g1
      replace g2 : wr.cell? ⟨b, o + j * 5 + 2, none⟩ = some (.string (mtext (q + 1 + 1))) := g2
      replace g3 : wr.cell? ⟨b, o + j * 5 + 3, none⟩ = some (.string (mtext (q + 1 + 1 + 1))) := g3
      replace g4 : wr.cell? ⟨b, o + j * 5 + 4, none⟩ = some (.string (mtext (q + 1 + 1 + 1 + 1))) := g4
      have hbr : Below wr.heap.size wr wr := Below.refl _ _
      -- y.op.name
      go_wp2_with fail
      go_region_held3 (fun w' => Below w.heap.size w w' ∧ Below wr.heap.size wr w' ∧ w'.cell? ⟨b, o + j * 5, none⟩ = some (Value.int .i64 (q)) ∧ w'.cell? ⟨b, o + j * 5 + 1, none⟩ = some (Value.int .i64 (q + 1)) ∧ w'.cell? ⟨b, o + j * 5 + 2, none⟩ = some (Value.string (mtext (q + 1 + 1))) ∧ w'.cell? ⟨b, o + j * 5 + 3, none⟩ = some (Value.string (mtext (q + 1 + 1 + 1))) ∧ w'.cell? ⟨b, o + j * 5 + 4, none⟩ = some (Value.string (mtext (q + 1 + 1 + 1 + 1))))
        ((go_split_ands; (repeat' apply And.intro) <;> first | go_keep | exact Below.refl _ _ | exact Below.drew (by assumption) | exact Below.drew (Below.refl _ _) | exact Below.step (by assumption) hb1 | exact cell_later hb1 (by assumption)))
        ((go_at_call 58; refine (markText_c _ _ (by omega) (by omega)).mono ?_; rintro e w1 ⟨rfl, hb1⟩))
      go_split_ands
      -- y.op.to_
      go_wp2_with fail
      go_region_held3 (fun w' => Below w.heap.size w w' ∧ Below wr.heap.size wr w' ∧ w'.cell? ⟨b, o + j * 5, none⟩ = some (Value.int .i64 (q)) ∧ w'.cell? ⟨b, o + j * 5 + 1, none⟩ = some (Value.int .i64 (q + 1)) ∧ w'.cell? ⟨b, o + j * 5 + 2, none⟩ = some (Value.string (mtext (q + 1 + 1))) ∧ w'.cell? ⟨b, o + j * 5 + 3, none⟩ = some (Value.string (mtext (q + 1 + 1 + 1))) ∧ w'.cell? ⟨b, o + j * 5 + 4, none⟩ = some (Value.string (mtext (q + 1 + 1 + 1 + 1))))
        ((go_split_ands; (repeat' apply And.intro) <;> first | go_keep | exact Below.refl _ _ | exact Below.drew (by assumption) | exact Below.drew (Below.refl _ _) | exact Below.step (by assumption) hb1 | exact cell_later hb1 (by assumption)))
        ((go_at_call 58; refine (markText_c _ _ (by omega) (by omega)).mono ?_; rintro e w1 ⟨rfl, hb1⟩))
      go_split_ands
      -- y.op.text
      go_wp2_with fail
      go_region_held3 (fun w' => Below w.heap.size w w' ∧ Below wr.heap.size wr w' ∧ w'.cell? ⟨b, o + j * 5, none⟩ = some (Value.int .i64 (q)) ∧ w'.cell? ⟨b, o + j * 5 + 1, none⟩ = some (Value.int .i64 (q + 1)) ∧ w'.cell? ⟨b, o + j * 5 + 2, none⟩ = some (Value.string (mtext (q + 1 + 1))) ∧ w'.cell? ⟨b, o + j * 5 + 3, none⟩ = some (Value.string (mtext (q + 1 + 1 + 1))) ∧ w'.cell? ⟨b, o + j * 5 + 4, none⟩ = some (Value.string (mtext (q + 1 + 1 + 1 + 1))))
        ((go_split_ands; (repeat' apply And.intro) <;> first | go_keep | exact Below.refl _ _ | exact Below.drew (by assumption) | exact Below.drew (Below.refl _ _) | exact Below.step (by assumption) hb1 | exact cell_later hb1 (by assumption)))
        ((go_at_call 58; refine (markText_c _ _ (by omega) (by omega)).mono ?_; rintro e w1 ⟨rfl, hb1⟩))
      go_split_ands
      go_wp2
      go_roundw
      case rel => exact ⟨j + 1, by omega, by go_num, by rw [hnext.out, hcn.out]; first | done | rfl | go_num | (simp only [Int.add_assoc]; go_num), by assumption⟩
      case measure => simp [intOf]; omega
    · obtain rfl : j = xs.length := by omega
      go_wp2
      go_ret
      exact ⟨by simp, hb⟩
end Go.Proofs.Ytdgnpkffdiopaaa
