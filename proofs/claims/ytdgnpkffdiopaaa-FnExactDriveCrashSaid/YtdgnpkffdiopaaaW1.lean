/- What the small functions on numbers and texts do. -/
import Derived.Test.YtdgnpkffdiopaaaProg
import Derived.Test.YtdgnpkffdiopaaaM1
import Derived.Deep.RegionHeld3
import Derived.WalkSpells
import Derived.WalkLawsBesides
import Derived.WalkSmall
namespace Go.Proofs.Ytdgnpkffdiopaaa
open Go.RowKit
set_option linter.unusedSimpArgs false
set_option linter.unusedVariables false
theorem within_c (n lo hi : Int) (w : World) :
    Calls Try.prog 41 #[.int .i64 n, .int .i64 lo, .int .i64 hi] w fun e w' => e = .returned (.bool (decide (lo ≤ n) && decide (n ≤ hi))) ∧ w = w' := by
  by_cases h : lo ≤ n
  all_goals
    go_enter Try.func41, Try.ntmps41
    go_wp2
    go_ret
    exact ⟨ret_eq (by simp [h] <;> omega), rfl⟩
theorem long_c (s : ByteArray) (w : World) :
    Calls Try.prog 42 #[.string s] w fun e w' => e = .returned (.int .i64 s.size) ∧ w = w' := by
  go_enter Try.func42, Try.ntmps42
  go_wp2
  go_ret
  exact ⟨rfl, rfl⟩
theorem isLong_c (s : ByteArray) (w : World) :
    Calls Try.prog 36 #[.string s] w fun e w' => e = .returned (.bool (decide ((20000 : Int) < s.size))) ∧ w = w' := by
  go_enter Try.func36, Try.ntmps36
  go_wp2
  go_ret
  exact ⟨rfl, rfl⟩
theorem isName_c (s : ByteArray) (most : Int) (hs : s.size ≤ 9223372036854775807) (w : World) :
    Calls Try.prog 84 #[.string s, .int .i64 most] w fun e w' => e = .returned (.bool (nameOk s most)) ∧ w = w' := by
  go_enter Try.func84, Try.ntmps84
  go_wp2_with fail
  go_loop [5, 6, 9] (fun _ _ i => ∃ k : Nat, k ≤ s.size ∧ i = .int .i64 k ∧ Hid (∀ j, j < k → nmAt s j = true)) (fun _ _ i => s.size - (intOf i).toNat)
  case atStart => exact ⟨0, by omega, rfl, fun j hj => by omega⟩
  case round =>
    obtain ⟨k, hk, rfl, HP⟩ := hrel
    by_cases hlt : k < s.size
    · have hc : Hid (nmAt s k = ((decide (97 ≤ s[k].toNat) && decide (s[k].toNat ≤ 122)) || (decide (k ≠ 0) && ((decide (48 ≤ s[k].toNat) && decide (s[k].toNat ≤ 57)) || decide (s[k].toNat = 45))))) := by
        show _ = _
        unfold nmAt
        have : s.data.toList.getD k 0 = s[k] := by
          rw [List.getD_eq_getElem?_getD, List.getElem?_eq_getElem (by simpa using hlt)]; rfl
        rw [this]
      have hno : nmAt s k = false → nameOk s most = false := fun h => by unfold nameOk; rw [range_all_false hlt h]; rfl
      have HN := Lib.hid hno
      clear hno
      have hyes : nmAt s k = true → Hid (∀ j, j < k + 1 → nmAt s j = true) := fun h j hj => by
        by_cases e : j = k
        · subst e; exact h
        · exact HP.out j (by omega)
      have HY := Lib.hid hyes
      clear hyes
      by_cases k0 : k = 0
      · subst k0
        by_cases c1 : (97 : Int) ≤ s[0].toNat
        · by_cases c2 : (s[0].toNat : Int) ≤ 122
          · go_wp2
            refine ⟨⟨0 + 1, by omega, by go_num, HY.out (by rw [hc.out]; simp; omega)⟩, by simp [intOf]; omega⟩
          · go_wp2
            go_ret
            exact ⟨by rw [HN.out (by rw [hc.out]; simp; omega)]; rfl, rfl⟩
        · go_wp2
          go_ret
          exact ⟨by rw [HN.out (by rw [hc.out]; simp; omega)]; rfl, rfl⟩
      · have k1 : ((k : Int) == 0) = false := by rw [beq_eq_false_iff_ne]; omega
        have hw : ∀ c : Bool, nmAt s k = c → ∃ a b d f g : Bool, a = decide ((97 : Int) ≤ s[k].toNat) := fun _ _ => ⟨_, true, true, true, true, rfl⟩
        clear hw
        by_cases c1 : (97 : Int) ≤ s[k].toNat
        · by_cases c2 : (s[k].toNat : Int) ≤ 122
          · go_wp2
            refine ⟨⟨k + 1, by omega, by go_num, HY.out (by rw [hc.out]; simp; omega)⟩, by simp [intOf]; omega⟩
          · have c3 : (48 : Int) ≤ s[k].toNat := by omega
            have c4 : ¬ (s[k].toNat : Int) ≤ 57 := by omega
            go_wp2
            go_ret
            exact ⟨by rw [HN.out (by rw [hc.out]; simp; omega)]; rfl, rfl⟩
        · by_cases c3 : (48 : Int) ≤ s[k].toNat
          · by_cases c4 : (s[k].toNat : Int) ≤ 57
            · go_wp2
              refine ⟨⟨k + 1, by omega, by go_num, HY.out (by rw [hc.out]; simp; omega)⟩, by simp [intOf]; omega⟩
            · go_wp2
              go_ret
              exact ⟨by rw [HN.out (by rw [hc.out]; simp; omega)]; rfl, rfl⟩
          · by_cases c5 : (s[k].toNat : Int) = 45
            · have c5' : ((s[k].toNat : Int) != 45) = false := by rw [bne_eq_false_iff_eq]; exact c5
              have C5 := Lib.hid c5
              clear c5
              go_wp2
              refine ⟨⟨k + 1, by omega, by go_num, HY.out (by rw [hc.out]; have := C5.out; simp; omega)⟩, by simp [intOf]; omega⟩
            · have c5' : ((s[k].toNat : Int) != 45) = true := by rw [bne_iff_ne]; exact c5
              go_wp2
              go_ret
              exact ⟨by rw [HN.out (by rw [hc.out]; simp; omega)]; rfl, rfl⟩
    · go_wp2_with (first | (go_at_call 42; refine (long_c _ _).mono ?_; rintro e w' ⟨rfl, rfl⟩) | (go_at_call 41; refine (within_c _ _ _ _).mono ?_; rintro e w' ⟨rfl, rfl⟩))
      go_ret
      refine ⟨?_, rfl⟩
      unfold nameOk
      rw [range_all_true (fun j hj => HP.out j (by omega))]
      rfl
theorem nameRight_c (s : ByteArray) (hs : (s.size : Int) ≤ 1099511627776) (w : World) :
    Calls Try.prog 68 #[.string s] w fun e w' => e = .returned (.bool (nameOk s 80)) ∧ w = w' := by
  go_enter Try.func68, Try.ntmps68
  go_wp2_with (go_at_call 84; refine (isName_c _ _ (by omega) _).mono ?_; rintro e w' ⟨rfl, rfl⟩)
  go_ret
  exact ⟨rfl, rfl⟩
theorem sNameRight_c (s : ByteArray) (hs : (s.size : Int) ≤ 1099511627776) (w : World) :
    Calls Try.prog 64 #[.string s] w fun e w' => e = .returned (.bool (nameOk s 80)) ∧ w = w' := by
  by_cases l1 : (1 : Int) ≤ s.size
  case neg =>
    have hno : Hid (nameOk s 80 = false) := by show _ = _; unfold nameOk; simp; omega
    go_enter Try.func64, Try.ntmps64
    go_wp2
    go_ret
    exact ⟨by rw [hno.out]; rfl, rfl⟩
  by_cases l2 : (s.size : Int) ≤ 80
  case neg =>
    have hno : Hid (nameOk s 80 = false) := by show _ = _; unfold nameOk; simp; omega
    go_enter Try.func64, Try.ntmps64
    go_wp2
    go_ret
    exact ⟨by rw [hno.out]; rfl, rfl⟩
  go_enter Try.func64, Try.ntmps64
  go_wp2_with fail
  go_loop [3, 4] (fun i _ => ∃ k : Nat, k ≤ s.size ∧ i = .int .i64 k ∧ Hid (∀ j, j < k → nmAt s j = true)) (fun i _ => s.size - (intOf i).toNat)
  case atStart => exact ⟨0, by omega, rfl, fun j hj => by omega⟩
  case round =>
    obtain ⟨k, hk, rfl, HP⟩ := hrel
    by_cases hlt : k < s.size
    · have hc : Hid (nmAt s k = ((decide (97 ≤ s[k].toNat) && decide (s[k].toNat ≤ 122)) || (decide (k ≠ 0) && ((decide (48 ≤ s[k].toNat) && decide (s[k].toNat ≤ 57)) || decide (s[k].toNat = 45))))) := by
        show _ = _
        unfold nmAt
        have : s.data.toList.getD k 0 = s[k] := by
          rw [List.getD_eq_getElem?_getD, List.getElem?_eq_getElem (by simpa using hlt)]; rfl
        rw [this]
      have hno : nmAt s k = false → nameOk s 80 = false := fun h => by unfold nameOk; rw [range_all_false hlt h]; rfl
      have HN := Lib.hid hno
      clear hno
      have hyes : nmAt s k = true → Hid (∀ j, j < k + 1 → nmAt s j = true) := fun h j hj => by
        by_cases e : j = k
        · subst e; exact h
        · exact HP.out j (by omega)
      have HY := Lib.hid hyes
      clear hyes
      by_cases k0 : k = 0
      · subst k0
        by_cases c1 : (97 : Int) ≤ s[0].toNat
        · by_cases c2 : (s[0].toNat : Int) ≤ 122
          · go_wp2
            refine ⟨⟨0 + 1, by omega, by go_num, HY.out (by rw [hc.out]; simp; omega)⟩, by simp [intOf]; omega⟩
          · go_wp2
            go_ret
            exact ⟨by rw [HN.out (by rw [hc.out]; simp; omega)]; rfl, rfl⟩
        · go_wp2
          go_ret
          exact ⟨by rw [HN.out (by rw [hc.out]; simp; omega)]; rfl, rfl⟩
      · have k1 : ((k : Int) == 0) = false := by rw [beq_eq_false_iff_ne]; omega
        have hw : ∀ c : Bool, nmAt s k = c → ∃ a b d f g : Bool, a = decide ((97 : Int) ≤ s[k].toNat) := fun _ _ => ⟨_, true, true, true, true, rfl⟩
        clear hw
        by_cases c1 : (97 : Int) ≤ s[k].toNat
        · by_cases c2 : (s[k].toNat : Int) ≤ 122
          · go_wp2
            refine ⟨⟨k + 1, by omega, by go_num, HY.out (by rw [hc.out]; simp; omega)⟩, by simp [intOf]; omega⟩
          · have c3 : (48 : Int) ≤ s[k].toNat := by omega
            have c4 : ¬ (s[k].toNat : Int) ≤ 57 := by omega
            go_wp2
            go_ret
            exact ⟨by rw [HN.out (by rw [hc.out]; simp; omega)]; rfl, rfl⟩
        · by_cases c3 : (48 : Int) ≤ s[k].toNat
          · by_cases c4 : (s[k].toNat : Int) ≤ 57
            · go_wp2
              refine ⟨⟨k + 1, by omega, by go_num, HY.out (by rw [hc.out]; simp; omega)⟩, by simp [intOf]; omega⟩
            · go_wp2
              go_ret
              exact ⟨by rw [HN.out (by rw [hc.out]; simp; omega)]; rfl, rfl⟩
          · by_cases c5 : (s[k].toNat : Int) = 45
            · have c5' : ((s[k].toNat : Int) != 45) = false := by rw [bne_eq_false_iff_eq]; exact c5
              have C5 := Lib.hid c5
              clear c5
              go_wp2
              refine ⟨⟨k + 1, by omega, by go_num, HY.out (by rw [hc.out]; have := C5.out; simp; omega)⟩, by simp [intOf]; omega⟩
            · have c5' : ((s[k].toNat : Int) != 45) = true := by rw [bne_iff_ne]; exact c5
              go_wp2
              go_ret
              exact ⟨by rw [HN.out (by rw [hc.out]; simp; omega)]; rfl, rfl⟩
    · have hyes : Hid (nameOk s 80 = true) := by
        show _ = _
        unfold nameOk
        rw [range_all_true (fun j hj => HP.out j (by omega))]
        simp; omega
      go_wp2
      go_ret
      exact ⟨by rw [hyes.out]; rfl, rfl⟩
theorem l02Byte_c (n : Int) (w : World) :
    Calls Try.prog 34 #[.int .i64 n] w fun e w' => e = .returned (.bool (decide (0 ≤ n) && decide (n ≤ 255))) ∧ w = w' := by
  by_cases h : 0 ≤ n
  all_goals
    go_enter Try.func34, Try.ntmps34
    go_wp2
    go_ret
    exact ⟨ret_eq (by simp [h] <;> omega), rfl⟩
theorem isByte_c (n : Int) (w : World) :
    Calls Try.prog 39 #[.int .i64 n] w fun e w' => e = .returned (.bool (decide (0 ≤ n) && decide (n ≤ 255))) ∧ w = w' := by
  go_enter Try.func39, Try.ntmps39
  go_wp2_with (go_at_call 41; refine (within_c _ _ _ _).mono ?_; rintro e w' ⟨rfl, rfl⟩)
  go_ret
  exact ⟨rfl, rfl⟩
theorem l01Min_c (a b : Int) (w : World) :
    Calls Try.prog 74 #[.int .i64 a, .int .i64 b] w fun e w' => e = .returned (.int .i64 (min a b)) ∧ w = w' := by
  by_cases h : a < b
  all_goals
    go_enter Try.func74, Try.ntmps74
    go_wp2
    go_ret
    exact ⟨ret_eq (by rw [Int.min_def]; split <;> simp <;> omega), rfl⟩
theorem isManyInt_c (A : Option Addr) (n c : Nat) (hn : n ≤ 9223372036854775807) (w : World) :
    Calls Try.prog 47 #[.slice A n c] w fun e w' => e = .returned (.bool (decide ((400 : Int) < n))) ∧ w = w' := by
  go_enter Try.func47, Try.ntmps47
  go_wp2
  go_ret
  exact ⟨rfl, rfl⟩
theorem codeOk_c (k m : Int) (w : World) :
    Calls Try.prog 77 #[.int .i64 k, .int .i64 m] w fun e w' => e = .returned (.bool (decide (1 ≤ k) && decide (k ≤ 8) && (decide (0 ≤ m) && decide (m ≤ 6)))) ∧ w = w' := by
  by_cases h : 1 ≤ k <;> by_cases h' : k ≤ 8
  all_goals try (exfalso; omega)
  all_goals
    go_enter Try.func77, Try.ntmps77
    go_wp2_with (go_at_call 41; refine (within_c _ _ _ _).mono ?_; rintro e w' ⟨rfl, rfl⟩)
    go_ret
    exact ⟨ret_eq (by simp [h, h'] <;> omega), rfl⟩
theorem sCodeOk_c (k m : Int) (w : World) :
    Calls Try.prog 75 #[.int .i64 k, .int .i64 m] w fun e w' => e = .returned (.bool (decide (1 ≤ k) && decide (k ≤ 8) && (decide (0 ≤ m) && decide (m ≤ 6)))) ∧ w = w' := by
  by_cases h : 1 ≤ k <;> by_cases h' : k ≤ 8 <;> by_cases h'' : 0 ≤ m
  all_goals try (exfalso; omega)
  all_goals
    go_enter Try.func75, Try.ntmps75
    go_wp2
    go_ret
    exact ⟨ret_eq (by simp [h, h', h''] <;> omega), rfl⟩
theorem l08Bytes_c (fs : List DStored) (r : Int) (A : Option Addr) (c : Nat) (w : World) (H : Rd kStored w A c fs) (hB : bL bStored fs ≤ 1099511627776) :
    Calls Try.prog 65 #[.agg #[.slice A fs.length c, .int .i64 r]] w fun e w' => e = .returned (.int .i64 (usedB fs)) ∧ Below w.heap.size w w' := by
  have hn := H.1
  have hm := H.2.1
  unfold maxLen at hm
  have hu := usedB_le fs
  go_enter Try.func65, Try.ntmps65
  go_wp2_with fail
  have hb : Below w.heap.size w (w.alloc (.cells #[.slice A fs.length c, .int .i64 r] 28)) := (by repeat' (first | assumption | exact Below.refl _ _ | (refine Below.alloc ?_ (by first | exact Nat.le_refl _ | omega | (simp; done) | (simp; omega)) _) | refine Below.drew ?_ | (refine below_drewN ?_ _) | (refine Below.setCell ?_ (by first | exact Nat.le_refl _ | omega | (simp; done) | (simp; omega)) _)))
  have g0 : (w.alloc (.cells #[.slice A fs.length c, .int .i64 r] 28)).cell? ⟨w.heap.size, 0, none⟩ = some (.slice A fs.length c) := by simp
  generalize w.alloc (.cells #[.slice A fs.length c, .int .i64 r] 28) = w1 at *
  go_loop [3, 4] (fun n i => ∃ k : Nat, k ≤ fs.length ∧ i = .int .i64 k ∧ n = .int .i64 (usedB (fs.take k))) (fun _ i => fs.length - (intOf i).toNat)
  case atStart => exact ⟨0, by omega, rfl, rfl⟩
  case round =>
    obtain ⟨k, hk, rfl, rfl⟩ := hrel
    by_cases hlt : k < fs.length
    · obtain ⟨b, o, rfl, ha, q0, q1, q2⟩ := rdStored (H.below hb) hlt
      have h1 := usedB_nonneg (fs.take k)
      have h2 := usedB_take_le fs (k + 1)
      have h3 : Hid (usedB (fs.take (k + 1)) = usedB (fs.take k) + fs[k].text.size) := usedB_take_succ hlt
      rw [h3.out] at h2
      go_wp2
      go_round
      case rel => exact ⟨k + 1, by omega, by go_num, by rw [h3.out]⟩
      case measure => simp [intOf]; omega
    · obtain rfl : k = fs.length := by omega
      go_wp2
      go_ret
      exact ⟨by simp, hb⟩
theorem used_c (fs : List DStored) (r : Int) (A : Option Addr) (c : Nat) (w : World) (H : Rd kStored w A c fs) (hB : bL bStored fs ≤ 1099511627776) :
    Calls Try.prog 69 #[.agg #[.slice A fs.length c, .int .i64 r]] w fun e w' => e = .returned (.int .i64 (usedB fs)) ∧ Below w.heap.size w w' := by
  have hn := H.1
  have hm := H.2.1
  unfold maxLen at hm
  have hu := usedB_le fs
  go_enter Try.func69, Try.ntmps69
  go_wp2_with fail
  go_loopw [3, 9] (fun n i wr => ∃ k : Nat, k ≤ fs.length ∧ i = .int .i64 k ∧ n = .int .i64 (usedB (fs.take k)) ∧ Below w.heap.size w wr) (fun _ i _ => fs.length - (intOf i).toNat)
  case atStart => exact ⟨0, by omega, rfl, rfl, (by repeat' (first | assumption | exact Below.refl _ _ | (refine Below.alloc ?_ (by first | exact Nat.le_refl _ | omega | (simp; done) | (simp; omega)) _) | refine Below.drew ?_ | (refine below_drewN ?_ _) | (refine Below.setCell ?_ (by first | exact Nat.le_refl _ | omega | (simp; done) | (simp; omega)) _)))⟩
  case round =>
    obtain ⟨k, hk, rfl, rfl, hb⟩ := hrel
    have hz := hb.size
    by_cases hlt : k < fs.length
    · obtain ⟨b, o, rfl, ha, q0, q1, q2⟩ := rdStored (H.below hb) hlt
      have h1 := usedB_nonneg (fs.take k)
      have h2 := usedB_take_le fs (k + 1)
      have h3 : Hid (usedB (fs.take (k + 1)) = usedB (fs.take k) + fs[k].text.size) := usedB_take_succ hlt
      rw [h3.out] at h2
      go_wp2_with (go_at_call 42; refine (long_c _ _).mono ?_; rintro e w' ⟨rfl, rfl⟩)
      go_roundw
      case rel => exact ⟨k + 1, by omega, by go_num, by rw [h3.out], (by repeat' (first | assumption | exact Below.refl _ _ | (refine Below.alloc ?_ (by first | exact Nat.le_refl _ | omega | (simp; done) | (simp; omega)) _) | refine Below.drew ?_ | (refine below_drewN ?_ _) | (refine Below.setCell ?_ (by first | exact Nat.le_refl _ | omega | (simp; done) | (simp; omega)) _)))⟩
      case measure => simp [intOf]; omega
    · obtain rfl : k = fs.length := by omega
      go_wp2
      go_ret
      exact ⟨by simp, hb⟩
end Go.Proofs.Ytdgnpkffdiopaaa
