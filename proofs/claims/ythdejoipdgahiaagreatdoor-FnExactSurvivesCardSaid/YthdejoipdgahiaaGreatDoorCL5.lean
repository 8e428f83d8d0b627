/- The law FnExactSurvives: whatever the input, it returns true, and the input reads behind the call as it read before. No condition. -/
import Derived.Test.YthdejoipdgahiaaGreatDoorCL4
import Derived.Test.YthdejoipdgahiaaGreatDoorCL3
import Derived.Shelf.Sort.Plain
import Derived.Shelf.Slices.CompactS
import Derived.Shelf.Slices.In.SortNone
import Derived.Test.YthdejoipdgahiaaGreatDoorCL2
import Derived.Test.YthdejoipdgahiaaGreatDoorRows
import Derived.WalkKit
import Derived.ProofKit
import Derived.SizedLaws
import Derived.Deep.Slices
import Derived.Test.YthdejoipdgahiaaGreatDoorChecked
import Derived.KernelRfl
import Derived.Test.YthdejoipdgahiaaGreatDoorCards
import Derived.Test.YthdejoipdgahiaaGreatDoorTie
import Derived.OpenShut
import Derived.ShutString
import Derived.ChangeOld
import Derived.Below
import Derived.Deep.DeepHandedRow
import Derived.Lib.LaidTab
import Derived.OpenVars
namespace Go.Proofs.YthdejoipdgahiaaGreatDoor
open Go.RowKit
set_option linter.unusedSimpArgs false
set_option linter.unusedVariables false
set_option maxRecDepth 100000
set_option maxHeartbeats 4000000
theorem getSpec_c {t : ByteArray} {at_ : Nat} (ht : t.size ≤ 20000) (ha : at_ ≤ 2000000) : Fun1 Tryz.prog 108 [.one (.lit (.string t)), .one (vN at_)] (.agg [.lit (.int .i64 (getN t at_).1), vN (getN t at_).2.1, vN (getN t at_).2.2]) := by
  obtain ⟨R, hRR⟩ : ∃ R, getN t at_ = R := ⟨_, rfl⟩
  rw [hRR]
  refine fun1_of_vc tb_ok mix (fn := Tryz.f108) Tryz.func108 rfl (by kernel_rfl) (by kernel_rfl) (by simp [Tryz.f108]) (by rfl) ?_
  (conv => whnf)
  (split <;> rename_i h0 <;> (try simp only [decide_eq_true_eq, decide_eq_false_iff_not, Bool.not_eq_true', Bool.not_eq_false', Bool.not_eq_true, Bool.not_eq_false, List.length_map] at h0) <;> conv => whnf)
  · exfalso; omega
  refine ⟨LG (getI t at_ R) (fun p => p.1) (fun p => AS.of [(0, .one (.lit (.string t))), (1, .one (vN at_)), (4, .one (.ptr 64 0)), (5, .one (vU p.2.2)), (6, .one (vN p.2.1))] [(64, .var [.lit (.int .i64 0), .lit (.int .i64 0), .lit (.int .i64 0)])]),
    lg_init (10, 0, 0) ⟨hRR, rfl, by decide, by decide⟩ (weak_of allsA allsA rfl rfl), ?_⟩
  rintro σ k ⟨⟨f, i, u⟩, ⟨hR, hf, hf0, hu⟩, hk, rfl⟩
  simp only at hR hf hf0 hu hk
  obtain ⟨g, rfl⟩ : ∃ g, f = g + 1 := ⟨f - 1, by omega⟩
  have hpw := pow_mono128 (i := i) (by omega)
  rw [getF] at hR
  dsimp only
  refine ⟨_, Weak.refl _, ?_⟩
  (conv => whnf)
  (split <;> rename_i h9 <;> (try simp only [decide_eq_true_eq, decide_eq_false_iff_not, Bool.not_eq_true', Bool.not_eq_false', Bool.not_eq_true, Bool.not_eq_false, List.length_map] at h9) <;> conv => whnf)
  · refine ⟨(t.size : Int) - (i : Int), by rw [← wrap64_id] <;> omega, ?_⟩; (conv => whnf)
    (split <;> rename_i hb <;> (try simp only [decide_eq_true_eq, decide_eq_false_iff_not, Bool.not_eq_true', Bool.not_eq_false', Bool.not_eq_true, Bool.not_eq_false, List.length_map] at hb) <;> conv => whnf)
    · rw [if_pos (by omega)] at hR
      subst hR
      exact ⟨close_int rfl, close_int rfl, close_int rfl, trivial⟩
    · rw [if_neg (by omega)] at hR
      refine ⟨((at_ + i : Nat) : Int), by rw [← wrap64_id] <;> omega, ?_⟩; (conv => whnf)
      refine ⟨at_ + i, rfl, by omega, ?_⟩; (conv => whnf)
      have hBd : byteAt t (at_ + i) = t.data.toList.getD (at_ + i) 0 := rfl
      obtain ⟨B, hB⟩ : ∃ B, t.data.toList.getD (at_ + i) 0 = B := ⟨_, rfl⟩
      rw [hBd, hB] at hR
      rw [hB]
      have hBl := B.toNat_lt
      refine ⟨(B.toNat : Int), (wrapU (by omega)).symm, ?_⟩; (conv => whnf)
      by_cases hE1 : i = 9 ∧ 1 < B.toNat
      · rw [if_pos (.inl hE1)] at hR
        subst hR
        (split <;> rename_i q1 <;> (try simp only [decide_eq_true_eq, decide_eq_false_iff_not, Bool.not_eq_true', Bool.not_eq_false', Bool.not_eq_true, Bool.not_eq_false, List.length_map] at q1) <;> conv => whnf)
        · (split <;> rename_i q2 <;> (try simp only [decide_eq_true_eq, decide_eq_false_iff_not, Bool.not_eq_true', Bool.not_eq_false', Bool.not_eq_true, Bool.not_eq_false, List.length_map] at q2) <;> conv => whnf)
          · exact ⟨close_int rfl, close_int rfl, close_int rfl, trivial⟩
          · exfalso; omega
        · exfalso; omega
      · obtain ⟨hv, hs⟩ := shl_room (B := B) (i := i) (u := u) (by omega) hu hE1
        have hU : u + B.toNat % 128 * 128 ^ i = u + B.toNat % 128 * 2 ^ (7 * i) := by rw [pow128]
        rw [hU] at hR
        (split <;> rename_i q1 <;> (try simp only [decide_eq_true_eq, decide_eq_false_iff_not, Bool.not_eq_true', Bool.not_eq_false', Bool.not_eq_true, Bool.not_eq_false, List.length_map] at q1) <;> conv => whnf)
        · (split <;> rename_i q2 <;> (try simp only [decide_eq_true_eq, decide_eq_false_iff_not, Bool.not_eq_true', Bool.not_eq_false', Bool.not_eq_true, Bool.not_eq_false, List.length_map] at q2) <;> conv => whnf)
          · exfalso; omega
          · skip
            refine ⟨by decide, ((B.toNat % 128 : Nat) : Int), rfl, ?_⟩; (conv => whnf)
            refine ⟨((7 * i : Nat) : Int), by rw [← wrap64_id] <;> omega, ?_⟩; (conv => whnf)
            refine ⟨((7 * i : Nat) : Int), (wrapU (by omega)).symm, ?_⟩; (conv => whnf)
            refine ⟨by omega, _, (shlv (v := B.toNat % 128) (i := i) (by omega) hv).symm, ?_⟩; (conv => whnf)
            refine ⟨((u + B.toNat % 128 * 2 ^ (7 * i) : Nat) : Int), by rw [← wrapU hs, Int.natCast_add], ?_⟩; (conv => whnf)
            obtain ⟨U, hUU⟩ : ∃ U, u + B.toNat % 128 * 2 ^ (7 * i) = U := ⟨_, rfl⟩
            have hs' := hs
            rw [hUU] at hs' ⊢
            (split <;> rename_i q3 <;> (try simp only [decide_eq_true_eq, decide_eq_false_iff_not, Bool.not_eq_true', Bool.not_eq_false', Bool.not_eq_true, Bool.not_eq_false, List.length_map] at q3) <;> conv => whnf)
            · have hL : B.toNat < 128 := by omega
              (split <;> rename_i q4 <;> (try simp only [decide_eq_true_eq, decide_eq_false_iff_not, Bool.not_eq_true', Bool.not_eq_false', Bool.not_eq_true, Bool.not_eq_false, List.length_map] at q4) <;> conv => whnf)
              · (split <;> rename_i q5 <;> (try simp only [decide_eq_true_eq, decide_eq_false_iff_not, Bool.not_eq_true', Bool.not_eq_false', Bool.not_eq_true, Bool.not_eq_false, List.length_map] at q5) <;> conv => whnf)
                · rw [if_pos (.inr ⟨by omega, by omega⟩)] at hR
                  subst hR
                  exact ⟨close_int rfl, close_int rfl, close_int rfl, trivial⟩
                · have hE2 : ¬ ((i = 9 ∧ 1 < B.toNat) ∨ (B.toNat = 0 ∧ 0 < i)) := by omega
                  have hS2 : 0 ≤ 0 := Nat.le_refl 0
                  rw [if_neg hE2, if_pos hL, show B.toNat * 128 ^ i = B.toNat % 128 * 2 ^ (7 * i) by rw [Nat.mod_eq_of_lt hL, pow128], hUU] at hR
                  subst hR
                  refine ⟨by decide, ((U / 2 : Nat) : Int), by rw [show (U : Int).tdiv 2 = ((U / 2 : Nat) : Int) from rfl]; exact (wrapU (by omega)).symm, ?_⟩; (conv => whnf)
                  refine ⟨((U / 2 : Nat) : Int), (wrapN (by omega)).symm, ?_⟩; (conv => whnf)
                  refine ⟨by decide, ((U % 2 : Nat) : Int), rfl, ?_⟩; (conv => whnf)
                  (split <;> rename_i q6 <;> (try simp only [decide_eq_true_eq, decide_eq_false_iff_not, Bool.not_eq_true', Bool.not_eq_false', Bool.not_eq_true, Bool.not_eq_false, List.length_map] at q6) <;> conv => whnf)
                  · refine ⟨-((U / 2 : Nat) : Int), by rw [← wrap64_id] <;> omega, ?_⟩; (conv => whnf)
                    refine ⟨-((U / 2 : Nat) : Int) - 1, by rw [← wrap64_id] <;> omega, ?_⟩; (conv => whnf)
                    refine ⟨((at_ + i : Nat) : Int), by rw [← wrap64_id] <;> omega, ?_⟩; (conv => whnf)
                    refine ⟨((at_ + i + 1 : Nat) : Int), by rw [← wrap64_id] <;> omega, ?_⟩; (conv => whnf)
                    exact ⟨close_int (by rw [unf_eq, if_pos (by omega)]), close_int rfl, close_int rfl, trivial⟩
                  · refine ⟨((at_ + i : Nat) : Int), by rw [← wrap64_id] <;> omega, ?_⟩; (conv => whnf)
                    refine ⟨((at_ + i + 1 : Nat) : Int), by rw [← wrap64_id] <;> omega, ?_⟩; (conv => whnf)
                    exact ⟨close_int (by rw [unf_eq, if_neg (by omega)]), close_int rfl, close_int rfl, trivial⟩
              · have hE2 : ¬ ((i = 9 ∧ 1 < B.toNat) ∨ (B.toNat = 0 ∧ 0 < i)) := by omega
                have hS2 : 0 ≤ 0 := Nat.le_refl 0
                rw [if_neg hE2, if_pos hL, show B.toNat * 128 ^ i = B.toNat % 128 * 2 ^ (7 * i) by rw [Nat.mod_eq_of_lt hL, pow128], hUU] at hR
                subst hR
                refine ⟨by decide, ((U / 2 : Nat) : Int), by rw [show (U : Int).tdiv 2 = ((U / 2 : Nat) : Int) from rfl]; exact (wrapU (by omega)).symm, ?_⟩; (conv => whnf)
                refine ⟨((U / 2 : Nat) : Int), (wrapN (by omega)).symm, ?_⟩; (conv => whnf)
                refine ⟨by decide, ((U % 2 : Nat) : Int), rfl, ?_⟩; (conv => whnf)
                (split <;> rename_i q6 <;> (try simp only [decide_eq_true_eq, decide_eq_false_iff_not, Bool.not_eq_true', Bool.not_eq_false', Bool.not_eq_true, Bool.not_eq_false, List.length_map] at q6) <;> conv => whnf)
                · refine ⟨-((U / 2 : Nat) : Int), by rw [← wrap64_id] <;> omega, ?_⟩; (conv => whnf)
                  refine ⟨-((U / 2 : Nat) : Int) - 1, by rw [← wrap64_id] <;> omega, ?_⟩; (conv => whnf)
                  refine ⟨((at_ + i : Nat) : Int), by rw [← wrap64_id] <;> omega, ?_⟩; (conv => whnf)
                  refine ⟨((at_ + i + 1 : Nat) : Int), by rw [← wrap64_id] <;> omega, ?_⟩; (conv => whnf)
                  exact ⟨close_int (by rw [unf_eq, if_pos (by omega)]), close_int rfl, close_int rfl, trivial⟩
                · refine ⟨((at_ + i : Nat) : Int), by rw [← wrap64_id] <;> omega, ?_⟩; (conv => whnf)
                  refine ⟨((at_ + i + 1 : Nat) : Int), by rw [← wrap64_id] <;> omega, ?_⟩; (conv => whnf)
                  exact ⟨close_int (by rw [unf_eq, if_neg (by omega)]), close_int rfl, close_int rfl, trivial⟩
            · have hE2 : ¬ ((i = 9 ∧ 1 < B.toNat) ∨ (B.toNat = 0 ∧ 0 < i)) := by omega
              rw [if_neg hE2, if_neg (by omega)] at hR
              have hi9 : i ≠ 9 := by omega
              (refine ⟨((i + 1 : Nat) : Int), by rw [← wrap64_id] <;> omega, ?_⟩; conv => whnf)
              exact lg_back (g, i + 1, U) ⟨by rw [← hUU]; exact hR, by show g + (i + 1) = 10; omega, by show 0 < g; omega, by show U < 128 ^ (i + 1); rw [← hUU, ← hU, Nat.pow_succ]; have := Nat.mul_le_mul_right (128 ^ i) (show B.toNat % 128 ≤ 127 by omega); omega⟩ (by show g < k; omega) (weak_of allsA allsA rfl rfl)
        · skip
          refine ⟨by decide, ((B.toNat % 128 : Nat) : Int), rfl, ?_⟩; (conv => whnf)
          refine ⟨((7 * i : Nat) : Int), by rw [← wrap64_id] <;> omega, ?_⟩; (conv => whnf)
          refine ⟨((7 * i : Nat) : Int), (wrapU (by omega)).symm, ?_⟩; (conv => whnf)
          refine ⟨by omega, _, (shlv (v := B.toNat % 128) (i := i) (by omega) hv).symm, ?_⟩; (conv => whnf)
          refine ⟨((u + B.toNat % 128 * 2 ^ (7 * i) : Nat) : Int), by rw [← wrapU hs, Int.natCast_add], ?_⟩; (conv => whnf)
          obtain ⟨U, hUU⟩ : ∃ U, u + B.toNat % 128 * 2 ^ (7 * i) = U := ⟨_, rfl⟩
          have hs' := hs
          rw [hUU] at hs' ⊢
          (split <;> rename_i q3 <;> (try simp only [decide_eq_true_eq, decide_eq_false_iff_not, Bool.not_eq_true', Bool.not_eq_false', Bool.not_eq_true, Bool.not_eq_false, List.length_map] at q3) <;> conv => whnf)
          · have hL : B.toNat < 128 := by omega
            (split <;> rename_i q4 <;> (try simp only [decide_eq_true_eq, decide_eq_false_iff_not, Bool.not_eq_true', Bool.not_eq_false', Bool.not_eq_true, Bool.not_eq_false, List.length_map] at q4) <;> conv => whnf)
            · (split <;> rename_i q5 <;> (try simp only [decide_eq_true_eq, decide_eq_false_iff_not, Bool.not_eq_true', Bool.not_eq_false', Bool.not_eq_true, Bool.not_eq_false, List.length_map] at q5) <;> conv => whnf)
              · rw [if_pos (.inr ⟨by omega, by omega⟩)] at hR
                subst hR
                exact ⟨close_int rfl, close_int rfl, close_int rfl, trivial⟩
              · have hE2 : ¬ ((i = 9 ∧ 1 < B.toNat) ∨ (B.toNat = 0 ∧ 0 < i)) := by omega
                have hS2 : 0 ≤ 0 := Nat.le_refl 0
                rw [if_neg hE2, if_pos hL, show B.toNat * 128 ^ i = B.toNat % 128 * 2 ^ (7 * i) by rw [Nat.mod_eq_of_lt hL, pow128], hUU] at hR
                subst hR
                refine ⟨by decide, ((U / 2 : Nat) : Int), by rw [show (U : Int).tdiv 2 = ((U / 2 : Nat) : Int) from rfl]; exact (wrapU (by omega)).symm, ?_⟩; (conv => whnf)
                refine ⟨((U / 2 : Nat) : Int), (wrapN (by omega)).symm, ?_⟩; (conv => whnf)
                refine ⟨by decide, ((U % 2 : Nat) : Int), rfl, ?_⟩; (conv => whnf)
                (split <;> rename_i q6 <;> (try simp only [decide_eq_true_eq, decide_eq_false_iff_not, Bool.not_eq_true', Bool.not_eq_false', Bool.not_eq_true, Bool.not_eq_false, List.length_map] at q6) <;> conv => whnf)
                · refine ⟨-((U / 2 : Nat) : Int), by rw [← wrap64_id] <;> omega, ?_⟩; (conv => whnf)
                  refine ⟨-((U / 2 : Nat) : Int) - 1, by rw [← wrap64_id] <;> omega, ?_⟩; (conv => whnf)
                  refine ⟨((at_ + i : Nat) : Int), by rw [← wrap64_id] <;> omega, ?_⟩; (conv => whnf)
                  refine ⟨((at_ + i + 1 : Nat) : Int), by rw [← wrap64_id] <;> omega, ?_⟩; (conv => whnf)
                  exact ⟨close_int (by rw [unf_eq, if_pos (by omega)]), close_int rfl, close_int rfl, trivial⟩
                · refine ⟨((at_ + i : Nat) : Int), by rw [← wrap64_id] <;> omega, ?_⟩; (conv => whnf)
                  refine ⟨((at_ + i + 1 : Nat) : Int), by rw [← wrap64_id] <;> omega, ?_⟩; (conv => whnf)
                  exact ⟨close_int (by rw [unf_eq, if_neg (by omega)]), close_int rfl, close_int rfl, trivial⟩
            · have hE2 : ¬ ((i = 9 ∧ 1 < B.toNat) ∨ (B.toNat = 0 ∧ 0 < i)) := by omega
              have hS2 : 0 ≤ 0 := Nat.le_refl 0
              rw [if_neg hE2, if_pos hL, show B.toNat * 128 ^ i = B.toNat % 128 * 2 ^ (7 * i) by rw [Nat.mod_eq_of_lt hL, pow128], hUU] at hR
              subst hR
              refine ⟨by decide, ((U / 2 : Nat) : Int), by rw [show (U : Int).tdiv 2 = ((U / 2 : Nat) : Int) from rfl]; exact (wrapU (by omega)).symm, ?_⟩; (conv => whnf)
              refine ⟨((U / 2 : Nat) : Int), (wrapN (by omega)).symm, ?_⟩; (conv => whnf)
              refine ⟨by decide, ((U % 2 : Nat) : Int), rfl, ?_⟩; (conv => whnf)
              (split <;> rename_i q6 <;> (try simp only [decide_eq_true_eq, decide_eq_false_iff_not, Bool.not_eq_true', Bool.not_eq_false', Bool.not_eq_true, Bool.not_eq_false, List.length_map] at q6) <;> conv => whnf)
              · refine ⟨-((U / 2 : Nat) : Int), by rw [← wrap64_id] <;> omega, ?_⟩; (conv => whnf)
                refine ⟨-((U / 2 : Nat) : Int) - 1, by rw [← wrap64_id] <;> omega, ?_⟩; (conv => whnf)
                refine ⟨((at_ + i : Nat) : Int), by rw [← wrap64_id] <;> omega, ?_⟩; (conv => whnf)
                refine ⟨((at_ + i + 1 : Nat) : Int), by rw [← wrap64_id] <;> omega, ?_⟩; (conv => whnf)
                exact ⟨close_int (by rw [unf_eq, if_pos (by omega)]), close_int rfl, close_int rfl, trivial⟩
              · refine ⟨((at_ + i : Nat) : Int), by rw [← wrap64_id] <;> omega, ?_⟩; (conv => whnf)
                refine ⟨((at_ + i + 1 : Nat) : Int), by rw [← wrap64_id] <;> omega, ?_⟩; (conv => whnf)
                exact ⟨close_int (by rw [unf_eq, if_neg (by omega)]), close_int rfl, close_int rfl, trivial⟩
          · have hE2 : ¬ ((i = 9 ∧ 1 < B.toNat) ∨ (B.toNat = 0 ∧ 0 < i)) := by omega
            rw [if_neg hE2, if_neg (by omega)] at hR
            have hi9 : i ≠ 9 := by omega
            (refine ⟨((i + 1 : Nat) : Int), by rw [← wrap64_id] <;> omega, ?_⟩; conv => whnf)
            exact lg_back (g, i + 1, U) ⟨by rw [← hUU]; exact hR, by show g + (i + 1) = 10; omega, by show 0 < g; omega, by show U < 128 ^ (i + 1); rw [← hUU, ← hU, Nat.pow_succ]; have := Nat.mul_le_mul_right (128 ^ i) (show B.toNat % 128 ≤ 127 by omega); omega⟩ (by show g < k; omega) (weak_of allsA allsA rfl rfl)
  · exfalso; omega
end Go.Proofs.YthdejoipdgahiaaGreatDoor
namespace Go.Proofs.YthdejoipdgahiaaGreatDoor
open Go.RowKit
set_option linter.unusedSimpArgs false
set_option linter.unusedVariables false
set_option maxRecDepth 100000
set_option maxHeartbeats 4000000
theorem frRightS_c (f : Fr) : Fun1 Tryz.prog 109 [.agg f.enc] (.one (.lit (.bool f.right))) := by
  obtain ⟨k, m, i, n, wh, tx⟩ := f
  obtain ⟨R, hR⟩ : ∃ R, Fr.right ⟨k, m, i, n, wh, tx⟩ = R := ⟨_, rfl⟩
  rw [hR]
  dsimp only [Fr.enc]
  have no : ∀ {P : Prop}, ((Fr.mk k m i n wh tx).right = true → P) → ¬ P → R = false := fun h hn => by
    rw [← hR]; exact Bool.eq_false_iff.2 fun e => hn (h e)
  have hiff := Fr.right_iff (f := ⟨k, m, i, n, wh, tx⟩)
  simp only at hiff
  have hc := codeSpec_c k m
  by_cases h1 : codeOk k m = true
  · have hk : 1 ≤ k ∧ k ≤ 8 ∧ 0 ≤ m ∧ m ≤ 6 := by
      unfold codeOk at h1
      simp only [Bool.and_eq_true, decide_eq_true_eq] at h1
      exact ⟨h1.1.1.1, h1.1.1.2, h1.1.2, h1.2⟩
    rw [h1] at hc
    obtain ⟨k', rfl⟩ : ∃ k' : Nat, k = k' := ⟨k.toNat, by omega⟩
    refine fun1_of_vc tb_ok mix (fn := Tryz.f109) Tryz.func109 rfl (by kernel_rfl) (by kernel_rfl) (by simp [Tryz.f109]) (by rfl) ?_
    (conv => whnf)
    refine ⟨_, _, hc, lendA, ?_⟩; (conv => whnf)
    (split <;> rename_i q1 <;> (try simp only [decide_eq_true_eq, decide_eq_false_iff_not, Bool.not_eq_true', Bool.not_eq_false', Bool.not_eq_true, Bool.not_eq_false, List.length_map] at q1) <;> conv => whnf)
    · refine ⟨k' + m, by rw [← wrap64_id] <;> omega, ?_⟩; (conv => whnf)
      (split <;> rename_i q2 <;> (try simp only [decide_eq_true_eq, decide_eq_false_iff_not, Bool.not_eq_true', Bool.not_eq_false', Bool.not_eq_true, Bool.not_eq_false, List.length_map] at q2) <;> conv => whnf)
      · (split <;> rename_i q3 <;> (try simp only [decide_eq_true_eq, decide_eq_false_iff_not, Bool.not_eq_true', Bool.not_eq_false', Bool.not_eq_true, Bool.not_eq_false, List.length_map] at q3) <;> conv => whnf)
        · (split <;> rename_i q4 <;> (try simp only [decide_eq_true_eq, decide_eq_false_iff_not, Bool.not_eq_true', Bool.not_eq_false', Bool.not_eq_true, Bool.not_eq_false, List.length_map] at q4) <;> conv => whnf)
          · (split <;> rename_i q5 <;> (try simp only [decide_eq_true_eq, decide_eq_false_iff_not, Bool.not_eq_true', Bool.not_eq_false', Bool.not_eq_true, Bool.not_eq_false, List.length_map] at q5) <;> conv => whnf)
            · obtain ⟨n', rfl⟩ : ∃ n' : Nat, n = n' := ⟨n.toNat, by omega⟩
              refine ⟨_, _, shardSpec_c (k := k') (n := n') (by omega) (by omega), lendA, ?_⟩; (conv => whnf)
              refine ⟨close_bool ?_, trivial⟩
              rw [← hR]
              unfold Fr.right
              simp only [h1, Int.toNat_natCast]
              rw [Bool.eq_iff_iff]
              simp
              omega
            · refine ⟨close_bool (no (P := wh.size = 32) (fun e => ?_) (by omega)), trivial⟩
              obtain ⟨_, _, _, _, _, _, _, _, _, _, _, _, _, h10, _⟩ := hiff.1 e
              exact h10
          · refine ⟨close_bool (no (P := n ≤ 12000) (fun e => ?_) (by omega)), trivial⟩
            obtain ⟨_, _, _, n', _, _, _, h4, _, _, _, _, h9, _, _⟩ := hiff.1 e
            omega
        · refine ⟨close_bool (no (P := 0 ≤ n) (fun e => ?_) (by omega)), trivial⟩
          obtain ⟨_, _, _, n', _, _, _, h4, _, _, _, _, h9, _, _⟩ := hiff.1 e
          omega
      · refine ⟨close_bool (no (P := i < k' + m) (fun e => ?_) (by omega)), trivial⟩
        obtain ⟨_, _, _, n', h1, h2, h3, h4, _, _, _, h8, h9, _, _⟩ := hiff.1 e
        omega
    · refine ⟨close_bool (no (P := 0 ≤ i) (fun e => ?_) (by omega)), trivial⟩
      obtain ⟨_, _, _, n', h1, h2, h3, h4, _, _, _, h8, h9, _, _⟩ := hiff.1 e
      omega
  · rw [Bool.eq_false_iff.2 h1] at hc
    refine fun1_of_vc tb_ok mix (fn := Tryz.f109) Tryz.func109 rfl (by kernel_rfl) (by kernel_rfl) (by simp [Tryz.f109]) (by rfl) ?_
    (conv => whnf)
    refine ⟨_, _, hc, lendA, ?_⟩; (conv => whnf)
    refine ⟨close_bool (no (P := codeOk k m = true) (fun e => ?_) h1), trivial⟩
    unfold Fr.right at e
    simp only [Bool.and_eq_true] at e
    exact e.1.1.1.1
def numsE (t : ByteArray) (i : Nat) : List (List AV) := (List.range i).map fun j => eInt (valF t j)
theorem numsE_succ (t : ByteArray) (i : Nat) : numsE t (i + 1) = numsE t i ++ [eInt (valF t i)] := by rw [numsE, List.range_succ, List.map_append]; rfl
theorem l09Frame_c {t : ByteArray} (ht : t.size ≤ 20000) : ∃ F : Fr, (readOk t = true → F = readV t) ∧ Fun1 Tryz.prog 70 [.one (.lit (.string t))] (.tup [(true, F.enc), (false, [.lit (.bool (readOk t))])]) := by
  by_cases h1 : 1 ≤ t.size
  · by_cases hs : (byteAt t 0).toNat = 70
    · have hC : ∃ F : Fr, (goodF t 4 → posF t 4 + 64 ≤ t.size → F = frV t) ∧ (¬ (goodF t 4 ∧ posF t 4 + 64 ≤ t.size) → F = Fr.zero) := by
        by_cases hc : goodF t 4 ∧ posF t 4 + 64 ≤ t.size
        · exact ⟨frV t, fun _ _ => rfl, fun h => absurd hc h⟩
        · exact ⟨Fr.zero, fun h h' => absurd ⟨h, h'⟩ hc, fun _ => rfl⟩
      obtain ⟨F, hF1, hF2⟩ := hC
      refine ⟨F, fun hr => ?_, ?_⟩
      · by_cases hg : goodF t 4
        · by_cases hp : posF t 4 + 64 ≤ t.size
          · rw [hF1 hg hp, (read_eq h1 hs hg hp).1]
          · exfalso; rw [read_short h1 hg (by omega)] at hr; cases hr
        · exfalso
          have : ∃ i, i < 4 ∧ goodF t i ∧ (getN t (posF t i)).2.2 ≠ 0 := by
            have key : ∀ j, ¬ goodF t j → ∃ i, i < j ∧ goodF t i ∧ (getN t (posF t i)).2.2 ≠ 0 := fun j => by
              induction j with
              | zero => intro h; exact absurd (fun q hq => absurd hq (Nat.not_lt_zero q)) h
              | succ j ih =>
                intro h
                by_cases hj : goodF t j
                · exact ⟨j, by omega, hj, fun e => h (goodF_step hj e)⟩
                · obtain ⟨i, h1, h2⟩ := ih hj; exact ⟨i, by omega, h2⟩
            exact key 4 hg
          obtain ⟨i, hi, hgi, hb⟩ := this
          rw [read_num h1 hi hgi hb] at hr; cases hr
      obtain ⟨R, hR⟩ : ∃ R, readOk t = R := ⟨_, rfl⟩
      rw [hR]
      refine fun1_of_vc (E := tbO70) (tbF_ok _) mix (fn := Tryz.f70) Tryz.func70 rfl (by kernel_rfl) (by kernel_rfl) (by simp [Tryz.f70]) (by rfl) ?_
      (conv => whnf)
      (split <;> rename_i q0 <;> (try simp only [decide_eq_true_eq, decide_eq_false_iff_not, Bool.not_eq_true', Bool.not_eq_false', Bool.not_eq_true, Bool.not_eq_false, List.length_map] at q0) <;> conv => whnf)
      · exfalso; omega
      refine ⟨0, rfl, by omega, ?_⟩; (conv => whnf)
      have hB0 : (t.data.toList.getD 0 0).toNat = 70 := hs
      (split <;> rename_i q1 <;> (try simp only [decide_eq_true_eq, decide_eq_false_iff_not, Bool.not_eq_true', Bool.not_eq_false', Bool.not_eq_true, Bool.not_eq_false, List.length_map] at q1) <;> conv => whnf)
      · exfalso; omega
      refine ⟨LG (fun i : Nat => i ≤ 4 ∧ goodF t i) (fun i => 4 - i) (fun i => AS.of [(0, .one (.lit (.string t))), (2, .one (.ptr 32 0)), (3, .one (.lit (.bool false))), (4, .one (.ptr 64 0)), (5, .one (.loc 304 0 i)), (6, .one (vN (posF t i))), (7, .one (vN i))] [(32, .var [.lit (.int .i64 0), .lit (.int .i64 0), .lit (.int .i64 0), .lit (.int .i64 0), .lit (.string .empty), .lit (.string .empty)]), (64, .var [.lit (.int .i64 0), .lit (.int .i64 0), .lit (.int .i64 0), .lit (.int .i64 0), .lit (.string .empty), .lit (.string .empty)]), (304, .row true 1 (numsE t i))]),
        lg_init 0 ⟨by omega, fun q hq => absurd hq (Nat.not_lt_zero q)⟩ (weak_of allsA allsA rfl rfl), ?_⟩
      rintro σ j ⟨i, ⟨hi, hg⟩, rfl, rfl⟩
      have hpl := posF_le h1 hg
      have hnl : (numsE t i).length = i := by simp [numsE]
      refine ⟨_, Weak.refl _, ?_⟩
      (conv => whnf)
      (split <;> rename_i h <;> (try simp only [decide_eq_true_eq, decide_eq_false_iff_not, Bool.not_eq_true', Bool.not_eq_false', Bool.not_eq_true, Bool.not_eq_false, List.length_map] at h) <;> conv => whnf)
      · refine ⟨_, _, getSpec_c ht (by omega : posF t i ≤ 2000000), lendA, ?_⟩; (conv => whnf)
        (split <;> rename_i h2 <;> (try simp only [decide_eq_true_eq, decide_eq_false_iff_not, Bool.not_eq_true', Bool.not_eq_false', Bool.not_eq_true, Bool.not_eq_false, List.length_map] at h2) <;> conv => whnf)
        · have hz := hF2 fun e => absurd (e.1 i (by omega)) (by omega)
          rw [read_num h1 (by omega) hg (by omega)] at hR
          subst hz hR
          exact ⟨rfl, ⟨close_int rfl, close_int rfl, close_int rfl, close_int rfl, close_str rfl, close_str rfl, trivial⟩, rfl, ⟨close_bool rfl, trivial⟩, trivial⟩
        · have hg1 := goodF_step hg (by omega : (getN t (posF t i)).2.2 = 0)
          have hns := numsE_succ t i
          refine ⟨true, [eInt (valF t i)], ⟨rfl, by simp [chunk], rfl, rfl⟩, ?_⟩; (conv => whnf)
          refine ⟨_, laid_map (f := eInt) (fun _ => rfl) [valF t i], rfl, by rw [hnl], rfl, by rw [hnl]; simp [maxLen]; omega, by rw [hnl]; simp; omega, ?_⟩; (conv => whnf)
          (refine ⟨((i + 1 : Nat) : Int), by rw [← wrap64_id] <;> omega, ?_⟩; conv => whnf)
          exact lg_back (i + 1) ⟨by omega, hg1⟩ (by (try dsimp only); omega) (weak_of (all_cons rfl (all_cons rfl (all_cons rfl (all_cons rfl (all_cons (eq_loc rfl (by rw [hnl]; rfl)) (all_cons rfl (all_cons rfl all_nil))))))) (all_cons rfl (all_cons rfl (all_cons (eq_row rfl (by rw [hns]; rfl)) all_nil))) rfl rfl)
      · have h4 : i = 4 := by omega
        subst h4
        refine ⟨((posF t 4 + 64 : Nat) : Int), by rw [← wrap64_id] <;> omega, ?_⟩; (conv => whnf)
        (split <;> rename_i h3 <;> (try simp only [decide_eq_true_eq, decide_eq_false_iff_not, Bool.not_eq_true', Bool.not_eq_false', Bool.not_eq_true, Bool.not_eq_false, List.length_map] at h3) <;> conv => whnf)
        · have hz := hF2 fun e => absurd e.2 (by omega)
          rw [read_short h1 hg (by omega)] at hR
          subst hz hR
          exact ⟨rfl, ⟨close_int rfl, close_int rfl, close_int rfl, close_int rfl, close_str rfl, close_str rfl, trivial⟩, rfl, ⟨close_bool rfl, trivial⟩, trivial⟩
        · have hp : posF t 4 + 64 ≤ t.size := by omega
          have hz := hF1 hg hp
          have hre := (read_eq h1 hs hg hp).2
          subst hz
          have hfr := frRightS_c (frV t)
          have hd := l09Digest_c (t.extract 0 (posF t 4 + 32)) (frV t).text (by rw [ext_size t (by omega)]; omega) (by show (t.extract _ _).size ≤ _; rw [ext_size t (by omega)]; omega)
          refine ⟨0, rfl, by decide, ?_⟩; (conv => whnf)
          refine ⟨eInt (valF t 0), rfl, ?_⟩; (conv => whnf)
          refine ⟨1, rfl, by decide, ?_⟩; (conv => whnf)
          refine ⟨eInt (valF t 1), rfl, ?_⟩; (conv => whnf)
          refine ⟨2, rfl, by decide, ?_⟩; (conv => whnf)
          refine ⟨eInt (valF t 2), rfl, ?_⟩; (conv => whnf)
          refine ⟨3, rfl, by decide, ?_⟩; (conv => whnf)
          refine ⟨eInt (valF t 3), rfl, ?_⟩; (conv => whnf)
          refine ⟨((posF t 4 + 32 : Nat) : Int), by rw [← wrap64_id] <;> omega, ?_⟩; (conv => whnf)
          refine ⟨by simp only [Option.getD]; omega, by simp only [Option.getD]; omega, by simp only [Option.getD]; omega, ?_⟩; (conv => whnf)
          refine ⟨_, rfl, ?_⟩; (conv => whnf)
          refine ⟨((posF t 4 + 64 : Nat) : Int), by rw [← wrap64_id] <;> omega, ?_⟩; (conv => whnf)
          refine ⟨by simp only [Option.getD]; omega, by simp only [Option.getD]; omega, by simp only [Option.getD]; omega, ?_⟩; (conv => whnf)
          refine ⟨_, rfl, ?_⟩; (conv => whnf)
          cases hrt : (frV t).right with
          | false =>
            rw [hrt] at hfr hre
            rw [hR] at hre
            refine ⟨_, _, hfr, lendA, ?_⟩; (conv => whnf)
            subst hre
            exact ⟨rfl, ⟨close_int rfl, close_int rfl, close_int rfl, close_int rfl, close_str rfl, close_str rfl, trivial⟩, rfl, ⟨close_bool rfl, trivial⟩, trivial⟩
          | true =>
            rw [hrt] at hfr hre
            refine ⟨_, _, hfr, lendA, ?_⟩; (conv => whnf)
            refine ⟨((posF t 4 + 32 : Nat) : Int), by rw [← wrap64_id] <;> omega, ?_⟩; (conv => whnf)
            refine ⟨by simp only [Option.getD]; omega, by simp only [Option.getD]; omega, by simp only [Option.getD]; omega, ?_⟩; (conv => whnf)
            refine ⟨t.extract 0 (posF t 4 + 32), rfl, ?_⟩; (conv => whnf)
            refine ⟨((posF t 4 + 32 : Nat) : Int), by rw [← wrap64_id] <;> omega, ?_⟩; (conv => whnf)
            refine ⟨((posF t 4 + 64 : Nat) : Int), by rw [← wrap64_id] <;> omega, ?_⟩; (conv => whnf)
            refine ⟨by simp only [Option.getD]; omega, by simp only [Option.getD]; omega, by simp only [Option.getD]; omega, ?_⟩; (conv => whnf)
            refine ⟨t.extract (posF t 4 + 32) (posF t 4 + 64), rfl, ?_⟩; (conv => whnf)
            refine ⟨_, _, hd, lendA, ?_⟩; (conv => whnf)
            rw [hR, Bool.true_and] at hre
            exact ⟨rfl, ⟨close_int rfl, close_int rfl, close_int rfl, close_int rfl, close_str rfl, close_str rfl, trivial⟩, rfl, ⟨close_bool hre, trivial⟩, trivial⟩
    · refine ⟨Fr.zero, fun hr => (by rw [read_sign h1 hs] at hr; cases hr), ?_⟩
      rw [read_sign h1 hs]
      refine fun1_of_vc (E := tbO70) (tbF_ok _) mix (fn := Tryz.f70) Tryz.func70 rfl (by kernel_rfl) (by kernel_rfl) (by simp [Tryz.f70]) (by rfl) ?_
      (conv => whnf)
      (split <;> rename_i q0 <;> (try simp only [decide_eq_true_eq, decide_eq_false_iff_not, Bool.not_eq_true', Bool.not_eq_false', Bool.not_eq_true, Bool.not_eq_false, List.length_map] at q0) <;> conv => whnf)
      · exfalso; omega
      refine ⟨0, rfl, by omega, ?_⟩; (conv => whnf)
      have hB0 : (t.data.toList.getD 0 0).toNat ≠ 70 := hs
      (split <;> rename_i q1 <;> (try simp only [decide_eq_true_eq, decide_eq_false_iff_not, Bool.not_eq_true', Bool.not_eq_false', Bool.not_eq_true, Bool.not_eq_false, List.length_map] at q1) <;> conv => whnf)
      · exact ⟨rfl, ⟨close_int rfl, close_int rfl, close_int rfl, close_int rfl, close_str rfl, close_str rfl, trivial⟩, rfl, ⟨close_bool rfl, trivial⟩, trivial⟩
      · exfalso; omega
  · refine ⟨Fr.zero, fun hr => (by rw [read_empty (by omega)] at hr; cases hr), ?_⟩
    rw [read_empty (by omega)]
    refine fun1_of_vc (E := tbO70) (tbF_ok _) mix (fn := Tryz.f70) Tryz.func70 rfl (by kernel_rfl) (by kernel_rfl) (by simp [Tryz.f70]) (by rfl) ?_
    (conv => whnf)
    (split <;> rename_i q0 <;> (try simp only [decide_eq_true_eq, decide_eq_false_iff_not, Bool.not_eq_true', Bool.not_eq_false', Bool.not_eq_true, Bool.not_eq_false, List.length_map] at q0) <;> conv => whnf)
    · exact ⟨rfl, ⟨close_int rfl, close_int rfl, close_int rfl, close_int rfl, close_str rfl, close_str rfl, trivial⟩, rfl, ⟨close_bool rfl, trivial⟩, trivial⟩
    · exfalso; omega
end Go.Proofs.YthdejoipdgahiaaGreatDoor
namespace Go.Proofs.YthdejoipdgahiaaGreatDoor
open Go.RowKit
set_option linter.unusedSimpArgs false
set_option linter.unusedVariables false
set_option maxRecDepth 100000
set_option maxHeartbeats 8000000
theorem like_c (g f : Fr) : Fun1 Tryz.prog 72 [.agg g.enc, .agg f.enc] (.one (.lit (.bool (likeF f g)))) := by
  obtain ⟨k, m, i, n, wh, tx⟩ := g
  obtain ⟨k', m', i', n', wh', tx'⟩ := f
  dsimp only [Fr.enc, likeF]
  refine fun1_of_vc tb_ok mix (fn := Tryz.f72) Tryz.func72 rfl (by kernel_rfl) (by kernel_rfl) (by simp [Tryz.f72]) (by rfl) ?_
  (conv => whnf)
  (split <;> rename_i c1 <;> (try simp only [decide_eq_true_eq, decide_eq_false_iff_not, Bool.not_eq_true', Bool.not_eq_false', Bool.not_eq_true, Bool.not_eq_false, List.length_map] at c1) <;> conv => whnf)
  · exact ⟨close_bool (by rw [decide_eq_true c1, Bool.true_and]), trivial⟩
  · exact ⟨close_bool (by rw [decide_eq_false c1, Bool.false_and]), trivial⟩
def frS (fr : Nat → Option Fr) (i : Nat) : Fr := (fr i).getD Fr.zero
def hvS (fr : Nat → Option Fr) (i : Nat) : Bool := (fr i).isSome
def lookE (n : Nat) (fr : Nat → Option Fr) (files : Nat) (counts : List Bool) (text : ByteArray) (ok : Bool) : List AV :=
  [vN files, .row true 6 ((updL (frS fr) Fr.zero n n).map Fr.enc), .row true 1 ((updL (hvS fr) false n n).map bE), .row true 1 (counts.map bE), .lit (.string text), .lit (.bool ok)]
theorem try_c {k m : Nat} {ds : List AV} {fr : Nat → Option Fr} {files i : Nat} {counts : List Bool} {text : ByteArray} {ok : Bool} {dr : List (List AV)} (hk : 1 ≤ k ∧ k ≤ 8) (hm : m ≤ 6) (hgood : ∀ j g, fr j = some g → FrG k m g) {f : Fr} (hi : i < k + m) (hf : fr i = some f) :
    Fun1 Tryz.prog 71 [.agg [vN k, vN m, .row true 2 dr], .agg (lookE (k + m) fr files counts text ok), .one (vN i)] (.tup [(false, [.lit (.string (tryT k m fr f))]), (false, [.lit (.bool (tryB k m fr f))])]) := by
  have hG := hgood i f hf
  obtain ⟨n', hn1, hn2, hn3⟩ := hG.n
  have hsS := shO_size (k := k) hgood (f := f) (k + m)
  rw [hn1, Int.toNat_natCast] at hsS
  have hdec := decSpec_c (k := k) (m := m) (L := shN k n') (size := n') (l := shO (k + m) fr f) hk hm (shO_len _ _ _) (by omega) rfl hsS
  have hTe : decT k m (shN k n') n' (shO (k + m) fr f) = tryT k m fr f := by rw [tryT, hn1, Int.toNat_natCast]
  have hCe : decC k m (shO (k + m) fr f) = tryC k m fr f := rfl
  have hTs : (tryT k m fr f).size ≤ 20000 := by have := decT_size k m (shN k n') n' (shO (k + m) fr f); rw [hTe] at this; omega
  obtain ⟨n, hn⟩ : ∃ n, k + m = n := ⟨_, rfl⟩
  rw [hTe, hCe, hn] at hdec
  have hdig := digestSpec_c (tryT k m fr f) (by omega)
  rw [if_pos (by omega)] at hdig
  have hBd : tryB k m fr f = (decide (tryC k m fr f = 0) && decide (digF (tryT k m fr f) = f.whole)) := rfl
  have hfs : frS fr i = f := by rw [frS, hf]; rfl
  rw [hn] at hi ⊢
  obtain ⟨TT, hTT⟩ : ∃ x, tryT k m fr f = x := ⟨_, rfl⟩
  obtain ⟨CC, hCC⟩ : ∃ x, tryC k m fr f = x := ⟨_, rfl⟩
  obtain ⟨BB, hBB⟩ : ∃ x, tryB k m fr f = x := ⟨_, rfl⟩
  rw [hTT, hCC, hBB] at hBd
  rw [hTT, hCC] at hdec
  rw [hTT] at hdig
  rw [hTT, hBB]
  have hshS : ∀ w, (List.range (w + 1)).map (shI fr f) = (List.range w).map (shI fr f) ++ [shI fr f w] := fun w => range_succ_map _ w
  have hget : ((updL (frS fr) Fr.zero n n).map Fr.enc)[i]? = some f.enc := by rw [← hfs]; have := updA (f := frS fr) (d := Fr.zero) Fr.enc hi; rwa [Nat.zero_add] at this
  dsimp only [lookE]
  refine fun1_of_vc tb_ok mix (fn := Tryz.f71) Tryz.func71 rfl (by kernel_rfl) (by kernel_rfl) (by simp [Tryz.f71]) (by rfl) ?_
  (conv => whnf)
  refine ⟨LG (fun w : Nat => w ≤ n) (fun w => n - w) (fun w => AS.of [(2, .one (vN i)), (3, .one (.ptr 48 0)), (4, .one (.ptr 64 0)), (8, .one (.loc 192 0 w)), (9, .one (vN w))]
    [(48, .var [vN k, vN m, .row true 2 dr]), (64, .var (lookE n fr files counts text ok)), (192, .row true 2 (((List.range w).map (shI fr f)).map Sh.enc))]),
    lg_init 0 (by omega) (weak_of allsA allsA rfl rfl), ?_⟩
  rintro σ j ⟨w, hw, rfl, rfl⟩
  refine ⟨_, Weak.refl _, ?_⟩
  (conv => whnf)
  have hnn : ((updL (frS fr) Fr.zero n n).map Fr.enc).length = n := updN Fr.enc (Nat.le_refl _)
  have hnn2 : (updL (frS fr) Fr.zero n n).length = n := updL_len (Nat.le_refl _)
  (split <;> rename_i hb <;> (try simp only [decide_eq_true_eq, decide_eq_false_iff_not, Bool.not_eq_true', Bool.not_eq_false', Bool.not_eq_true, Bool.not_eq_false, List.length_map] at hb) <;> conv => whnf)
  · have hlw : w < n := by omega
    have gw : ((updL (frS fr) Fr.zero n n).map Fr.enc)[w]? = some (frS fr w).enc := by have := updA (f := frS fr) (d := Fr.zero) Fr.enc hlw; rwa [Nat.zero_add] at this
    have hw2 : ((updL (hvS fr) false n n).map bE)[w]? = some (bE (hvS fr w)) := by have := updA (f := hvS fr) (d := false) bE hlw; rwa [Nat.zero_add] at this
    cases hfw : fr w with
    | none =>
      have hv : hvS fr w = false := by rw [hvS, hfw]; rfl
      have hsv : shI fr f w = Sh.none := by rw [shI, hfw]
      rw [hv] at hw2
      refine ⟨w, rfl, _, hw2, ?_⟩; (conv => whnf)
      refine ⟨true, [Sh.enc (shI fr f w)], ⟨rfl, by simp [chunk], rfl, by rw [hsv]; rfl⟩, ?_⟩; (conv => whnf)
      refine ⟨_, laid_map (f := Sh.enc) (fun _ => rfl) [shI fr f w], rfl, by simp, rfl, by simp [maxLen]; omega, by simp; omega, ?_⟩; (conv => whnf)
      (refine ⟨((w + 1 : Nat) : Int), by rw [← wrap64_id] <;> omega, ?_⟩; conv => whnf)
      exact lg_back (w + 1) (by omega) (by (try dsimp only); omega) (weak_of (all_cons rfl (all_cons rfl (all_cons rfl (all_cons (eq_loc rfl (by simp)) (all_cons rfl all_nil))))) (all_cons rfl (all_cons rfl (all_cons (eq_row rfl (by rw [hshS, List.map_append])) all_nil))) rfl rfl)
    | some g =>
      have hv : hvS fr w = true := by rw [hvS, hfw]; rfl
      have hg : frS fr w = g := by rw [frS, hfw]; rfl
      rw [hv] at hw2
      rw [hg] at gw
      refine ⟨w, rfl, _, hw2, ?_⟩; (conv => whnf)
      refine ⟨w, rfl, _, gw, ?_⟩; (conv => whnf)
      refine ⟨i, rfl, _, hget, ?_⟩; (conv => whnf)
      refine ⟨_, _, like_c g f, lendA, ?_⟩; (conv => whnf)
      cases hlk : likeF f g with
      | true =>
        have hsv : shI fr f w = ⟨true, g.text⟩ := by rw [shI, hfw]; simp only [hlk, if_true]
        (conv => whnf)
        refine ⟨w, rfl, _, gw, ?_⟩; (conv => whnf)
        refine ⟨true, [Sh.enc (shI fr f w)], ⟨rfl, by simp [chunk], rfl, by rw [hsv]; rfl⟩, ?_⟩; (conv => whnf)
        refine ⟨_, laid_map (f := Sh.enc) (fun _ => rfl) [shI fr f w], rfl, by simp, rfl, by simp [maxLen]; omega, by simp; omega, ?_⟩; (conv => whnf)
        (refine ⟨((w + 1 : Nat) : Int), by rw [← wrap64_id] <;> omega, ?_⟩; conv => whnf)
        exact lg_back (w + 1) (by omega) (by (try dsimp only); omega) (weak_of (all_cons rfl (all_cons rfl (all_cons rfl (all_cons (eq_loc rfl (by simp)) (all_cons rfl all_nil))))) (all_cons rfl (all_cons rfl (all_cons (eq_row rfl (by rw [hshS, List.map_append])) all_nil))) rfl rfl)
      | false =>
        have hsv : shI fr f w = Sh.none := by rw [shI, hfw]; simp only [hlk]; rfl
        (conv => whnf)
        refine ⟨true, [Sh.enc (shI fr f w)], ⟨rfl, by simp [chunk], rfl, by rw [hsv]; rfl⟩, ?_⟩; (conv => whnf)
        refine ⟨_, laid_map (f := Sh.enc) (fun _ => rfl) [shI fr f w], rfl, by simp, rfl, by simp [maxLen]; omega, by simp; omega, ?_⟩; (conv => whnf)
        (refine ⟨((w + 1 : Nat) : Int), by rw [← wrap64_id] <;> omega, ?_⟩; conv => whnf)
        exact lg_back (w + 1) (by omega) (by (try dsimp only); omega) (weak_of (all_cons rfl (all_cons rfl (all_cons rfl (all_cons (eq_loc rfl (by simp)) (all_cons rfl all_nil))))) (all_cons rfl (all_cons rfl (all_cons (eq_row rfl (by rw [hshS, List.map_append])) all_nil))) rfl rfl)
  · have hwn : w = n := by omega
    subst hwn
    refine ⟨i, rfl, _, hget, ?_⟩; (conv => whnf)
    refine ⟨_, _, hdec, lends_cons (lend_one (la_lit rfl)) (lends_cons (lend_one (la_lit rfl)) (lends_cons (lend_one (la_int hn1.symm)) (lends_cons (lend_one (la_loc rfl rfl rfl (by simp) rfl)) lends_nil))), ?_⟩; (conv => whnf)
    (split <;> rename_i c3 <;> (try simp only [decide_eq_true_eq, decide_eq_false_iff_not, Bool.not_eq_true', Bool.not_eq_false', Bool.not_eq_true, Bool.not_eq_false, List.length_map] at c3) <;> conv => whnf)
    · refine ⟨_, _, hdig, lendA, ?_⟩; (conv => whnf)
      refine ⟨i, rfl, _, hget, ?_⟩; (conv => whnf)
      exact ⟨rfl, ⟨close_str rfl, trivial⟩, rfl, ⟨close_bool (by rw [hBd, decide_eq_true (by omega : CC = 0), Bool.true_and]), trivial⟩, trivial⟩
    · exact ⟨rfl, ⟨close_str rfl, trivial⟩, rfl, ⟨close_bool (by rw [hBd, decide_eq_false (by omega : ¬ CC = 0), Bool.false_and]), trivial⟩, trivial⟩
end Go.Proofs.YthdejoipdgahiaaGreatDoor
namespace Go.Proofs.YthdejoipdgahiaaGreatDoor
open Go.RowKit
set_option linter.unusedSimpArgs false
set_option linter.unusedVariables false
set_option maxRecDepth 100000
set_option maxHeartbeats 2000000
theorem stT_keep {k m : Nat} {fr : Nat → Option Fr} {i : Nat} {f : Fr} (h : stO k m fr i = some f) : ∀ d, stT k m fr (i + d) = stT k m fr i
  | 0 => rfl
  | d + 1 => by rw [← Nat.add_assoc, stT, stO_keep h d]; exact stT_keep h d
def oB (k m : Nat) (fr : Nat → Option Fr) (i : Nat) : Bool := (stO k m fr i).isSome
def cI (k m n : Nat) (fr : Nat → Option Fr) (i : Nat) : List Bool := match stO k m fr i with
  | some f => updL (goodI fr f) false n n
  | none => List.replicate n false
theorem cI_len (k m n : Nat) (fr : Nat → Option Fr) (i : Nat) : (cI k m n fr i).length = n := by
  unfold cI; split
  · exact updL_len (Nat.le_refl _)
  · simp
def filesN (ds : List DDrive) (name : ByteArray) (i : Nat) : Nat := ((List.range i).filter (thereO ds name)).length
theorem filesN_succ (ds : List DDrive) (name : ByteArray) (i : Nat) : filesN ds name (i + 1) = filesN ds name i + (if thereO ds name i = true then 1 else 0) := by
  unfold filesN
  rw [List.range_succ, List.filter_append, List.length_append]
  by_cases h : thereO ds name i = true
  · rw [if_pos h, List.filter_cons_of_pos h]; rfl
  · rw [if_neg h, List.filter_cons_of_neg h]; rfl
theorem filesN_le (ds : List DDrive) (name : ByteArray) (i : Nat) : filesN ds name i ≤ i := by
  have := List.length_filter_le (thereO ds name) (List.range i)
  simpa [filesN] using this
def lookR (k m : Nat) (ds : List DDrive) (name : ByteArray) : List AV := lookE (k + m) (frO k m ds name) (filesN ds name (k + m)) (cI k m (k + m) (frO k m ds name) (k + m)) (stT k m (frO k m ds name) (k + m)) (oB k m (frO k m ds name) (k + m))
theorem look_nb (k m : Nat) (ds : List DDrive) (name : ByteArray) : (T.agg (lookR k m ds name)).nb = true := by
  have h : ∀ l : List Bool, AV.nb (4 + 1) (.row true 1 (l.map bE)) = true := fun l => nb_map (n := 4) (fun y => rfl) _
  have h6 : ∀ l : List Fr, AV.nb (4 + 1) (.row true 6 (l.map Fr.enc)) = true := fun l => nb_map (n := 4) (fun y => rfl) _
  simp only [lookR, lookE, T.nb, List.all_cons, List.all_nil, h, h6]; rfl
theorem eq_varc {t : Option Blk} {x y : AV} {l : List AV} (h : t = some (.var (x :: l))) (e : x = y) : t = some (.var (y :: l)) := by rw [h, e]
theorem lookSpec_c {k m : Nat} {ds : List DDrive} {name : ByteArray} (hk : 1 ≤ k ∧ k ≤ 8) (hm : m ≤ 6) (hdl : ds.length = k + m) (hd : ∀ d ∈ ds, driveOk d = true) (hl : ∀ d ∈ ds, d.files.length ≤ 4294967296) (htx : ∀ d ∈ ds, ∀ f ∈ d.files, f.text.size ≤ 20000) :
    Fun1 Tryz.prog 41 [.agg (DArray.enc ⟨k, m, ds⟩), .one (.lit (.string name))] (.agg (lookR k m ds name)) := by
  have hnb := look_nb k m ds name
  have hR : lookR k m ds name = lookE (k + m) (frO k m ds name) (filesN ds name (k + m)) (cI k m (k + m) (frO k m ds name) (k + m)) (stT k m (frO k m ds name) (k + m)) (oB k m (frO k m ds name) (k + m)) := rfl
  obtain ⟨R, hRR⟩ : ∃ R, lookR k m ds name = R := ⟨_, rfl⟩
  rw [hRR] at hR hnb ⊢
  obtain ⟨fr, hfr⟩ : ∃ fr, frO k m ds name = fr := ⟨_, rfl⟩
  have hgood : ∀ j g, fr j = some g → FrG k m g ∧ isF k m ds name j = true ∧ g = frI ds name j := fun j g h => frO_good (by rw [hfr]; exact h)
  have hF0 : ∀ j, isF k m ds name j = false → fr j = none := fun j h => by rw [← hfr, frO, h]; rfl
  have hF1 : ∀ j, isF k m ds name j = true → fr j = some (frI ds name j) := fun j h => by rw [← hfr, frO, if_pos h]
  have htry : ∀ {files i : Nat} {counts : List Bool} {text : ByteArray} {ok : Bool} {dr : List (List AV)} {f : Fr}, i < k + m → fr i = some f → Fun1 Tryz.prog 71 [.agg [vN k, vN m, .row true 2 dr], .agg (lookE (k + m) fr files counts text ok), .one (vN i)] (.tup [(false, [.lit (.string (tryT k m fr f))]), (false, [.lit (.bool (tryB k m fr f))])]) :=
    fun hi hf => try_c (ds := []) hk hm (fun j g h => (hgood j g h).1) hi hf
  obtain ⟨n, hn⟩ : ∃ n, k + m = n := ⟨_, rfl⟩
  rw [hfr, hn] at hR
  rw [hn] at hdl htry
  have hlen : (List.map DDrive.enc (DArray.mk (k : Int) (m : Int) ds).drives).length = n := by rw [List.length_map]; exact hdl
  refine fun1_of_vc tb_ok mix (fn := Tryz.f41) Tryz.func41 rfl (by kernel_rfl) (by kernel_rfl) (by simp [Tryz.f41]) (by exact hnb) ?_
  (conv => whnf)
  refine ⟨n, by rw [hlen], by rw [hlen]; omega, by rw [hlen]; omega, by rw [hlen]; simp only [maxLen]; omega, ?_⟩; (conv => whnf)
  refine ⟨n, by rw [hlen], by rw [hlen]; omega, by rw [hlen]; omega, by rw [hlen]; simp only [maxLen]; omega, ?_⟩; (conv => whnf)
  refine ⟨n, by rw [hlen], by rw [hlen]; omega, by rw [hlen]; omega, by rw [hlen]; simp only [maxLen]; omega, ?_⟩; (conv => whnf)
  refine ⟨LG (fun i : Nat => i ≤ n) (fun i => n - i) (fun i => AS.of [(1, .one (.lit (.string name))), (2, .one (.ptr 32 0)), (4, .one (.ptr 64 0)), (5, .one (vN n)), (6, .one (.ptr 96 0)), (7, .one (vN i))]
    [(32, .var (DArray.enc ⟨k, m, ds⟩)), (64, .var [.lit (.int .i64 0), .lit (.slice none 0 0), .lit (.slice none 0 0), .lit (.slice none 0 0), .lit (.string .empty), .lit (.bool false)]), (96, .var [vN (filesN ds name i), .loc 272 0 n, .loc 304 0 n, .loc 336 0 n, .lit (.string .empty), .lit (.bool false)]), (272, .row true 6 ((updL (frS fr) Fr.zero n i).map Fr.enc)), (304, .row true 1 ((updL (hvS fr) false n i).map bE)), (336, .row true 1 ((List.replicate n false).map bE))]),
    lg_init 0 (by omega) ?_, ?_⟩
  · refine weak_of (all_cons rfl (all_cons rfl (all_cons rfl (all_cons (eq_int rfl (by rw [hlen])) (all_cons rfl (all_cons rfl all_nil)))))) (all_cons rfl (all_cons rfl (all_cons ?_ (all_cons (eq_row rfl ?_) (all_cons (eq_row rfl ?_) (all_cons (eq_row rfl ?_) all_nil)))))) rfl rfl
    · rfl
    · rw [updL_zero, List.map_replicate]; rfl
    · rw [updL_zero, List.map_replicate]; rfl
    · rw [List.map_replicate]; rfl
  rintro σ j ⟨i, hi, rfl, rfl⟩
  have hfl0 := filesN_le ds name i
  refine ⟨_, Weak.refl _, ?_⟩
  (conv => whnf)
  (split <;> rename_i hb <;> (try simp only [decide_eq_true_eq, decide_eq_false_iff_not, Bool.not_eq_true', Bool.not_eq_false', Bool.not_eq_true, Bool.not_eq_false, List.length_map] at hb) <;> conv => whnf)
  · have hlt' : i < n := by omega
    have hlt : i < ds.length := by omega
    have hdv := drvL_at hlt
    have hmem := List.getElem_mem hlt
    have hfi := l08Find_c ds[i] name (hl _ hmem)
    have hth0 : thereO ds name i = hasN ds[i].files name := by rw [thereO, hdv]
    refine ⟨i, rfl, _, at_map hlt, ?_⟩; (conv => whnf)
    refine ⟨_, _, hfi, lends_cons (lend_bor rfl rfl) (lends_cons (lend_one (la_lit rfl)) lends_nil), ?_⟩; (conv => whnf)
    cases hth : hasN ds[i].files name with
    | false =>
      rw [hth] at hth0
      have h0 := hF0 i (by rw [isF, hth0]; rfl)
      have h1 : frS fr i = Fr.zero := by rw [frS, h0]; rfl
      have h2 : hvS fr i = false := by rw [hvS, h0]; rfl
      have h3 : filesN ds name (i + 1) = filesN ds name i := by rw [filesN_succ, hth0]; rfl
      (split <;> rename_i hn0 <;> (try simp only [decide_eq_true_eq, decide_eq_false_iff_not, Bool.not_eq_true', Bool.not_eq_false', Bool.not_eq_true, Bool.not_eq_false, List.length_map] at hn0) <;> conv => whnf)
      · (refine ⟨((i + 1 : Nat) : Int), by rw [← wrap64_id] <;> omega, ?_⟩; conv => whnf)
        exact lg_back (i + 1) (by omega) (by (try dsimp only); omega) (weak_of allsA (all_cons rfl (all_cons rfl (all_cons (eq_varc rfl (by rw [h3])) (all_cons (eq_row rfl (by rw [updL_skip hlt' h1])) (all_cons (eq_row rfl (by rw [updL_skip hlt' h2])) (all_cons rfl all_nil)))))) rfl rfl)
      · exfalso
        have := findI_nonneg.1 (by omega : 0 ≤ findI ds[i].files name)
        rw [hth] at this; cases this
    | true =>
      obtain ⟨hfl, hfe, -⟩ := findI_eq (hd _ hmem) hth
      rw [hth] at hth0
      have htd := txtD_at hfl
      obtain ⟨⟨fk, fm, fi, fn, fw, ft⟩, hFr, hrd⟩ := l09Frame_c (t := (ds[i].files[findP ds[i].files name]'hfl).text) (htx _ hmem _ (List.getElem_mem hfl))
      dsimp only [Fr.enc] at hrd
      have hif : isF k m ds name i = (readOk (ds[i].files[findP ds[i].files name]'hfl).text && decide ((readFr (ds[i].files[findP ds[i].files name]'hfl).text).k = (k : Int)) && decide ((readFr (ds[i].files[findP ds[i].files name]'hfl).text).m = (m : Int)) && decide ((readFr (ds[i].files[findP ds[i].files name]'hfl).text).i = (i : Int))) := by rw [isF, hth0, hdv, htd]; rfl
      have hfI : frI ds name i = readFr (ds[i].files[findP ds[i].files name]'hfl).text := by rw [frI, if_pos hth0, hdv, htd]
      have h3 : filesN ds name (i + 1) = filesN ds name i + 1 := by rw [filesN_succ, if_pos hth0]
      (split <;> rename_i hn0 <;> (try simp only [decide_eq_true_eq, decide_eq_false_iff_not, Bool.not_eq_true', Bool.not_eq_false', Bool.not_eq_true, Bool.not_eq_false, List.length_map] at hn0) <;> conv => whnf)
      · exfalso; omega
      refine ⟨((filesN ds name i + 1 : Nat) : Int), by rw [← wrap64_id] <;> omega, ?_⟩; (conv => whnf)
      refine ⟨i, rfl, _, at_map hlt, ?_⟩; (conv => whnf)
      refine ⟨findP ds[i].files name, hfe, _, at_map hfl, ?_⟩; (conv => whnf)
      refine ⟨_, _, hrd, lends_cons (lend_one (la_lit rfl)) lends_nil, ?_⟩; (conv => whnf)
      cases hok : readOk (ds[i].files[findP ds[i].files name]'hfl).text with
      | false =>
        rw [hok] at hif
        (conv => whnf)
        have h0 := hF0 i (by rw [hif]; rfl)
        have h1 : frS fr i = Fr.zero := by rw [frS, h0]; rfl
        have h2 : hvS fr i = false := by rw [hvS, h0]; rfl
        (refine ⟨((i + 1 : Nat) : Int), by rw [← wrap64_id] <;> omega, ?_⟩; conv => whnf)
        exact lg_back (i + 1) (by omega) (by (try dsimp only); omega) (weak_of allsA (all_cons rfl (all_cons rfl (all_cons (eq_varc rfl (by rw [h3])) (all_cons (eq_row rfl (by rw [updL_skip hlt' h1])) (all_cons (eq_row rfl (by rw [updL_skip hlt' h2])) (all_cons rfl all_nil)))))) rfl rfl)
      | true =>
        have hFe : readFr (ds[i].files[findP ds[i].files name]'hfl).text = ⟨fk, fm, fi, fn, fw, ft⟩ := by rw [hFr hok, readFr, if_pos hok]
        rw [hok, hFe] at hif
        rw [hFe] at hfI
        simp only at hif
        (conv => whnf)
        (split <;> rename_i c1 <;> (try simp only [decide_eq_true_eq, decide_eq_false_iff_not, Bool.not_eq_true', Bool.not_eq_false', Bool.not_eq_true, Bool.not_eq_false, List.length_map] at c1) <;> conv => whnf)
        · (split <;> rename_i c2 <;> (try simp only [decide_eq_true_eq, decide_eq_false_iff_not, Bool.not_eq_true', Bool.not_eq_false', Bool.not_eq_true, Bool.not_eq_false, List.length_map] at c2) <;> conv => whnf)
          · by_cases c3 : fi = (i : Int)
            · have h0 := hF1 i (by rw [hif, decide_eq_true c1, decide_eq_true c2, decide_eq_true c3]; rfl)
              have h1 : frS fr i = ⟨fk, fm, fi, fn, fw, ft⟩ := by rw [frS, h0, hfI]; rfl
              have h2 : hvS fr i = true := by rw [hvS, h0]; rfl
              (split <;> rename_i c4 <;> (try simp only [decide_eq_true_eq, decide_eq_false_iff_not, Bool.not_eq_true', Bool.not_eq_false', Bool.not_eq_true, Bool.not_eq_false, List.length_map] at c4) <;> conv => whnf)
              · refine ⟨i, rfl, by omega, ?_⟩; (conv => whnf)
                refine ⟨_, updG (f := frS fr) Fr.enc hlt', ?_⟩; (conv => whnf)
                refine ⟨_, rfl, ?_⟩; (conv => whnf)
                refine ⟨i, rfl, by omega, ?_⟩; (conv => whnf)
                refine ⟨_, updG (f := hvS fr) bE hlt', ?_⟩; (conv => whnf)
                refine ⟨_, rfl, ?_⟩; (conv => whnf)
                (refine ⟨((i + 1 : Nat) : Int), by rw [← wrap64_id] <;> omega, ?_⟩; conv => whnf)
                exact lg_back (i + 1) (by omega) (by (try dsimp only); omega) (weak_of allsA (all_cons rfl (all_cons rfl (all_cons (eq_varc rfl (by rw [h3])) (all_cons (eq_row rfl (updS Fr.enc hlt' h1)) (all_cons (eq_row rfl (updS bE hlt' h2)) (all_cons rfl all_nil)))))) rfl rfl)
              · exfalso; exact c4 c3
            · (split <;> rename_i c4 <;> (try simp only [decide_eq_true_eq, decide_eq_false_iff_not, Bool.not_eq_true', Bool.not_eq_false', Bool.not_eq_true, Bool.not_eq_false, List.length_map] at c4) <;> conv => whnf)
              · exfalso; exact c3 c4
              · have h0 := hF0 i (by rw [hif]; rw [decide_eq_false c3]; simp)
                have h1 : frS fr i = Fr.zero := by rw [frS, h0]; rfl
                have h2 : hvS fr i = false := by rw [hvS, h0]; rfl
                (refine ⟨((i + 1 : Nat) : Int), by rw [← wrap64_id] <;> omega, ?_⟩; conv => whnf)
                exact lg_back (i + 1) (by omega) (by (try dsimp only); omega) (weak_of allsA (all_cons rfl (all_cons rfl (all_cons (eq_varc rfl (by rw [h3])) (all_cons (eq_row rfl (by rw [updL_skip hlt' h1])) (all_cons (eq_row rfl (by rw [updL_skip hlt' h2])) (all_cons rfl all_nil)))))) rfl rfl)
          · have h0 := hF0 i (by rw [hif]; rw [decide_eq_false c2]; simp)
            have h1 : frS fr i = Fr.zero := by rw [frS, h0]; rfl
            have h2 : hvS fr i = false := by rw [hvS, h0]; rfl
            (refine ⟨((i + 1 : Nat) : Int), by rw [← wrap64_id] <;> omega, ?_⟩; conv => whnf)
            exact lg_back (i + 1) (by omega) (by (try dsimp only); omega) (weak_of allsA (all_cons rfl (all_cons rfl (all_cons (eq_varc rfl (by rw [h3])) (all_cons (eq_row rfl (by rw [updL_skip hlt' h1])) (all_cons (eq_row rfl (by rw [updL_skip hlt' h2])) (all_cons rfl all_nil)))))) rfl rfl)
        · have h0 := hF0 i (by rw [hif]; rw [decide_eq_false c1]; simp)
          have h1 : frS fr i = Fr.zero := by rw [frS, h0]; rfl
          have h2 : hvS fr i = false := by rw [hvS, h0]; rfl
          (refine ⟨((i + 1 : Nat) : Int), by rw [← wrap64_id] <;> omega, ?_⟩; conv => whnf)
          exact lg_back (i + 1) (by omega) (by (try dsimp only); omega) (weak_of allsA (all_cons rfl (all_cons rfl (all_cons (eq_varc rfl (by rw [h3])) (all_cons (eq_row rfl (by rw [updL_skip hlt' h1])) (all_cons (eq_row rfl (by rw [updL_skip hlt' h2])) (all_cons rfl all_nil)))))) rfl rfl)
  · have hin : i = n := by omega
    have hcl : ∀ q, ((cI k m n fr q).map bE).length = n := fun q => by rw [List.length_map, cI_len]
    refine ⟨LG (fun i : Nat => i ≤ n) (fun i => n - i) (fun i => AS.of [(2, .one (.ptr 32 0)), (4, .one (.ptr 64 0)), (5, .one (vN n)), (6, .one (.ptr 96 0)), (11, .one (vN i))]
      [(32, .var (DArray.enc ⟨k, m, ds⟩)), (64, .var [.lit (.int .i64 0), .lit (.slice none 0 0), .lit (.slice none 0 0), .lit (.slice none 0 0), .lit (.string .empty), .lit (.bool false)]), (96, .var [vN (filesN ds name n), .loc 272 0 n, .loc 304 0 n, .loc 336 0 n, .lit (.string (stT k m fr i)), .lit (.bool (oB k m fr i))]), (272, .row true 6 ((updL (frS fr) Fr.zero n n).map Fr.enc)), (304, .row true 1 ((updL (hvS fr) false n n).map bE)), (336, .row true 1 ((cI k m n fr i).map bE))]),
      lg_init 0 (by omega) ?_, ?_⟩
    · subst hin
      exact weak_of allsA allsA rfl rfl
    clear hb
    rintro σ j ⟨q, hq, rfl, rfl⟩
    dsimp only
    have hc := hcl q
    cases hs : stO k m fr q with
    | some f =>
      have e1 := stO_keep hs (n - q)
      have e2 := stT_keep hs (n - q)
      rw [show q + (n - q) = n by omega] at e1 e2
      have e3 : cI k m n fr n = cI k m n fr q := by rw [cI, cI, e1, hs]
      have e4 : oB k m fr n = true := by rw [oB, e1]; rfl
      have e5 : oB k m fr q = true := by rw [oB, hs]; rfl
      rw [e2, e3, e4] at hR
      obtain ⟨TT, hTT⟩ : ∃ x, stT k m fr q = x := ⟨_, rfl⟩
      obtain ⟨CC, hCC⟩ : ∃ x, cI k m n fr q = x := ⟨_, rfl⟩
      rw [hCC] at hc
      rw [hTT, hCC] at hR
      rw [e5, hTT, hCC]
      subst hR
      refine ⟨_, Weak.refl _, ?_⟩
      (conv => whnf)
      (split <;> rename_i hb2 <;> (try simp only [decide_eq_true_eq, decide_eq_false_iff_not, Bool.not_eq_true', Bool.not_eq_false', Bool.not_eq_true, Bool.not_eq_false, List.length_map] at hb2) <;> conv => whnf)
      · exact ⟨close_int rfl, close_row rfl rfl (by rw [updN (f := frS fr) (d := Fr.zero) Fr.enc (Nat.le_refl _)]) rfl, close_row rfl rfl (by rw [updN (f := hvS fr) (d := false) bE (Nat.le_refl _)]) rfl, close_row rfl rfl hc.symm rfl, close_str rfl, close_bool rfl, trivial⟩
      · exact ⟨close_int rfl, close_row rfl rfl (by rw [updN (f := frS fr) (d := Fr.zero) Fr.enc (Nat.le_refl _)]) rfl, close_row rfl rfl (by rw [updN (f := hvS fr) (d := false) bE (Nat.le_refl _)]) rfl, close_row rfl rfl hc.symm rfl, close_str rfl, close_bool rfl, trivial⟩
    | none =>
      have e5 : oB k m fr q = false := by rw [oB, hs]; rfl
      have e6 : cI k m n fr q = List.replicate n false := by rw [cI, hs]
      have hcr : ((List.replicate n false).map bE).length = n := by simp
      have hre : q = n → R = lookE n fr (filesN ds name n) (List.replicate n false) (stT k m fr q) false := fun e => by subst e; rw [hR, e5, e6]
      have hgo : stO k m fr q = none := hs
      have hT1 : stT k m fr (q + 1) = match fr q with | some f => tryT k m fr f | none => stT k m fr q := by rw [stT, hs]; rfl
      have hS1 : stO k m fr (q + 1) = match fr q with | some f => if tryB k m fr f = true then some f else none | none => none := by rw [stO, hs]; rfl
      obtain ⟨T0, hT0⟩ : ∃ x, stT k m fr q = x := ⟨_, rfl⟩
      rw [hT0] at hre hT1
      rw [e5, e6, hT0]
      refine ⟨_, Weak.refl _, ?_⟩
      (conv => whnf)
      (split <;> rename_i hb2 <;> (try simp only [decide_eq_true_eq, decide_eq_false_iff_not, Bool.not_eq_true', Bool.not_eq_false', Bool.not_eq_true, Bool.not_eq_false, List.length_map] at hb2) <;> conv => whnf)
      · have hlq : q < n := by omega
        have gq : ((updL (frS fr) Fr.zero n n).map Fr.enc)[0 + q]? = some (frS fr q).enc := updA (f := frS fr) (d := Fr.zero) Fr.enc hlq
        have hq2 : ((updL (hvS fr) false n n).map bE)[0 + q]? = some (bE (hvS fr q)) := updA (f := hvS fr) (d := false) bE hlq
        cases hfq : fr q with
        | none =>
          have hv : hvS fr q = false := by rw [hvS, hfq]; rfl
          rw [hfq] at hT1 hS1
          simp only at hT1 hS1
          have hO1 : oB k m fr (q + 1) = false := by rw [oB, hS1]; rfl
          have hC1 : cI k m n fr (q + 1) = List.replicate n false := by rw [cI, hS1]
          rw [hv] at hq2
          refine ⟨q, rfl, hlq, ?_⟩; (conv => whnf)
          refine ⟨_, hq2, ?_⟩; (conv => whnf)
          (refine ⟨((q + 1 : Nat) : Int), by rw [← wrap64_id] <;> omega, ?_⟩; conv => whnf)
          exact lg_back (q + 1) (by omega) (by (try dsimp only); omega) (weak_of allsA (all_cons rfl (all_cons rfl (all_cons (by rw [hT1, hO1]; rfl) (all_cons rfl (all_cons rfl (all_cons (eq_row rfl (by rw [hC1])) all_nil)))))) rfl rfl)
        | some f =>
          have hv : hvS fr q = true := by rw [hvS, hfq]; rfl
          have hg : frS fr q = f := by rw [frS, hfq]; rfl
          rw [hfq] at hT1 hS1
          simp only at hT1 hS1
          rw [hv] at hq2
          rw [hg] at gq
          have htr := @htry (filesN ds name n) q (List.replicate n false) T0 false (ds.map DDrive.enc) f hlq hfq
          dsimp only [lookE] at htr
          obtain ⟨TT, hTT⟩ : ∃ x, tryT k m fr f = x := ⟨_, rfl⟩
          obtain ⟨BB, hBB⟩ : ∃ x, tryB k m fr f = x := ⟨_, rfl⟩
          rw [hTT, hBB] at htr
          rw [hTT] at hT1
          rw [hBB] at hS1
          refine ⟨q, rfl, hlq, ?_⟩; (conv => whnf)
          refine ⟨_, hq2, ?_⟩; (conv => whnf)
          refine ⟨_, _, htr, lends_cons (lend_bor rfl rfl) (lends_cons (lend_agg (all2_cons (la_lit rfl) (all2_cons (la_loc rfl rfl rfl (by rw [updN (f := frS fr) (d := Fr.zero) Fr.enc (Nat.le_refl _)]) rfl) (all2_cons (la_loc rfl rfl rfl (by rw [updN (f := hvS fr) (d := false) bE (Nat.le_refl _)]) rfl) (all2_cons (la_loc rfl rfl rfl hcr.symm rfl) (all2_cons (la_lit rfl) (all2_cons (la_lit rfl) all2_nil))))))) (lends_cons (lend_one (la_lit rfl)) lends_nil)), ?_⟩; (conv => whnf)
          cases BB with
          | false =>
            simp only [Bool.false_eq_true, if_false] at hS1
            have hO1 : oB k m fr (q + 1) = false := by rw [oB, hS1]; rfl
            have hC1 : cI k m n fr (q + 1) = List.replicate n false := by rw [cI, hS1]
            (conv => whnf)
            (refine ⟨((q + 1 : Nat) : Int), by rw [← wrap64_id] <;> omega, ?_⟩; conv => whnf)
            exact lg_back (q + 1) (by omega) (by (try dsimp only); omega) (weak_of allsA (all_cons rfl (all_cons rfl (all_cons (by rw [hT1, hO1]; rfl) (all_cons rfl (all_cons rfl (all_cons (eq_row rfl (by rw [hC1])) all_nil)))))) rfl rfl)
          | true =>
            simp only [if_true] at hS1
            have hO1 : oB k m fr (q + 1) = true := by rw [oB, hS1]; rfl
            have hC1 : cI k m n fr (q + 1) = updL (goodI fr f) false n n := by rw [cI, hS1]
            (conv => whnf)
            refine ⟨LG (fun w : Nat => w ≤ n) (fun w => n - w) (fun w => AS.of [(2, .one (.ptr 32 0)), (4, .one (.ptr 64 0)), (5, .one (vN n)), (6, .one (.ptr 96 0)), (11, .one (vN q)), (12, .one (vN w))]
              [(32, .var (DArray.enc ⟨k, m, ds⟩)), (64, .var [.lit (.int .i64 0), .lit (.slice none 0 0), .lit (.slice none 0 0), .lit (.slice none 0 0), .lit (.string .empty), .lit (.bool false)]), (96, .var [vN (filesN ds name n), .loc 272 0 n, .loc 304 0 n, .loc 336 0 n, .lit (.string TT), .lit (.bool true)]), (272, .row true 6 ((updL (frS fr) Fr.zero n n).map Fr.enc)), (304, .row true 1 ((updL (hvS fr) false n n).map bE)), (336, .row true 1 ((updL (goodI fr f) false n w).map bE))]),
              lg_init 0 (by omega) (weak_of allsA (all_cons rfl (all_cons rfl (all_cons rfl (all_cons rfl (all_cons rfl (all_cons (eq_row rfl (by rw [updL_zero])) all_nil)))))) rfl rfl), ?_⟩
            rintro σ j ⟨w, hw, rfl, rfl⟩
            refine ⟨_, Weak.refl _, ?_⟩
            (conv => whnf)
            (split <;> rename_i hb3 <;> (try simp only [decide_eq_true_eq, decide_eq_false_iff_not, Bool.not_eq_true', Bool.not_eq_false', Bool.not_eq_true, Bool.not_eq_false, List.length_map] at hb3) <;> conv => whnf)
            · have hlw : w < n := by omega
              have gw : ((updL (frS fr) Fr.zero n n).map Fr.enc)[0 + w]? = some (frS fr w).enc := updA (f := frS fr) (d := Fr.zero) Fr.enc hlw
              have hw2 : ((updL (hvS fr) false n n).map bE)[0 + w]? = some (bE (hvS fr w)) := updA (f := hvS fr) (d := false) bE hlw
              cases hfw : fr w with
              | none =>
                have hv2 : hvS fr w = false := by rw [hvS, hfw]; rfl
                have hgi : goodI fr f w = false := by rw [goodI, hfw]
                rw [hv2] at hw2
                refine ⟨w, rfl, hlw, ?_⟩; (conv => whnf)
                refine ⟨_, hw2, ?_⟩; (conv => whnf)
                refine ⟨w, rfl, hlw, ?_⟩; (conv => whnf)
                refine ⟨_, updG (f := goodI fr f) bE hlw, ?_⟩; (conv => whnf)
                refine ⟨_, rfl, ?_⟩; (conv => whnf)
                (refine ⟨((w + 1 : Nat) : Int), by rw [← wrap64_id] <;> omega, ?_⟩; conv => whnf)
                exact lg_back (w + 1) (by omega) (by (try dsimp only); omega) (weak_of allsA (all_cons rfl (all_cons rfl (all_cons rfl (all_cons rfl (all_cons rfl (all_cons (eq_row rfl (updS bE hlw hgi)) all_nil)))))) rfl rfl)
              | some g =>
                have hv2 : hvS fr w = true := by rw [hvS, hfw]; rfl
                have hg2 : frS fr w = g := by rw [frS, hfw]; rfl
                have hgi : goodI fr f w = likeF f g := by rw [goodI, hfw]
                rw [hv2] at hw2
                rw [hg2] at gw
                refine ⟨w, rfl, hlw, ?_⟩; (conv => whnf)
                refine ⟨_, hw2, ?_⟩; (conv => whnf)
                refine ⟨w, rfl, hlw, ?_⟩; (conv => whnf)
                refine ⟨_, gw, ?_⟩; (conv => whnf)
                refine ⟨q, rfl, hlq, ?_⟩; (conv => whnf)
                refine ⟨_, gq, ?_⟩; (conv => whnf)
                refine ⟨_, _, like_c g f, lendA, ?_⟩; (conv => whnf)
                refine ⟨w, rfl, hlw, ?_⟩; (conv => whnf)
                refine ⟨_, updG (f := goodI fr f) bE hlw, ?_⟩; (conv => whnf)
                refine ⟨_, rfl, ?_⟩; (conv => whnf)
                (refine ⟨((w + 1 : Nat) : Int), by rw [← wrap64_id] <;> omega, ?_⟩; conv => whnf)
                exact lg_back (w + 1) (by omega) (by (try dsimp only); omega) (weak_of allsA (all_cons rfl (all_cons rfl (all_cons rfl (all_cons rfl (all_cons rfl (all_cons (eq_row rfl (updS bE hlw hgi)) all_nil)))))) rfl rfl)
            · have hwn : w = n := by omega
              subst hwn
              (refine ⟨((q + 1 : Nat) : Int), by rw [← wrap64_id] <;> omega, ?_⟩; conv => whnf)
              exact lg_back (q + 1) (by omega) (by (try dsimp only); omega) (weak_of allsA (all_cons rfl (all_cons rfl (all_cons (by rw [hT1, hO1]; rfl) (all_cons rfl (all_cons rfl (all_cons (eq_row rfl (by rw [hC1])) all_nil)))))) rfl rfl)
      · rw [hre (by omega)]
        exact ⟨close_int rfl, close_row rfl rfl (by rw [updN (f := frS fr) (d := Fr.zero) Fr.enc (Nat.le_refl _)]) rfl, close_row rfl rfl (by rw [updN (f := hvS fr) (d := false) bE (Nat.le_refl _)]) rfl, close_row rfl rfl hcr.symm rfl, close_str rfl, close_bool rfl, trivial⟩
end Go.Proofs.YthdejoipdgahiaaGreatDoor
namespace Go.Proofs.YthdejoipdgahiaaGreatDoor
open Go.RowKit Go.Sort Go.Lib
set_option linter.unusedSimpArgs false
set_option linter.unusedVariables false
set_option maxRecDepth 100000
set_option maxHeartbeats 2000000
theorem bel_of_grow (w : World) (q : Nat) (os' : Array Obj) : Bel w.heap.size w (grow (w.drewN q) os') :=
  ⟨rfl, rfl, rfl, by simp [grow, World.drewN], fun k hk => by simp [grow, World.drewN, Array.getElem?_append_left hk], fun _ => Nat.le_add_right _ _⟩
def bytL (t : ByteArray) : List UInt8 := t.data.toList
theorem txt_bytL (t : ByteArray) : txtOf (bytL t) = t := rfl
section
variable {P : Program} {w0 w : World} {L : Nat → Prop} {n : Nat} {σ : AS} {a : Act} {c : Ctx} {F : Nat → Nat → Prop}
theorem elt_str {l : List ByteArray} {i j : Nat} {x : AV} (h : elt (l.map eStr) i j = some x) : ∃ hi : i < l.length, j = 0 ∧ x = .lit (.string l[i]) := by
  unfold elt at h
  rw [List.getElem?_map] at h
  cases hq : l[i]? with
  | none => simp [hq] at h
  | some t =>
    obtain ⟨hi, rfl⟩ := List.getElem?_eq_some_iff.1 hq
    simp only [hq, Option.map_some, Option.bind_some] at h
    cases j with
    | zero => cases h; exact ⟨hi, rfl, rfl⟩
    | succ j => simp [eStr] at h
theorem str_elt {l : List ByteArray} {i : Nat} (hi : i < l.length) : elt (l.map eStr) i 0 = some (.lit (.string l[i])) := by
  unfold elt; rw [List.getElem?_map, List.getElem?_eq_getElem hi]; rfl
theorem place_core {s b cap m : Nat} {l srt pre : List ByteArray} {os : Array Obj} (hpre : pre <+: srt) (h : H w0 L n σ a w c F) (hs : σ.mem s = some (.row true 1 (l.map eStr))) (hat : c.at_ s = some (.row b cap 1)) (hRB : RowB c w true b cap 1 (l.map eStr) (F s)) (hsl : srt.length = l.length) :
    ∃ F', H w0 L n (σ.set s (.row true 1 (pre.map eStr))) a (grow (putRow encStr (Go.Sort.ahead w m) b 0 (srt.map bytL).toArray) os) c F' := by
  obtain ⟨C, el, fz, G, a1, a2, a3, a4, a5, a6, a7, a8, a9, a10, a11, a12⟩ := id hRB
  simp only [List.length_map] at a3
  have hbw : b < w.heap.size := (Array.getElem?_eq_some_iff.1 a1).1
  obtain ⟨d', hd'⟩ : ∃ d', (srt.map bytL).toArray = d' := ⟨_, rfl⟩
  have hds : d'.size = srt.length := by rw [← hd']; simp
  rw [hd']
  have hw1 : (putRow encStr w b 0 d').heap[b]? = some (.cells (putCells encStr 0 d' C) el fz) := by
    simp only [putRow, mapBlock, Array.getElem?_modify, if_true, a1, Option.map_some, onCells]
  have hcs : (putCells encStr 0 d' C).size = C.size := by simp [putCells]
  have hget : ∀ i (hi : i < srt.length), (putCells encStr 0 d' C)[i]? = some (.string srt[i]) := fun i hi => by
    have hC : C[i]? = some (C[i]'(by omega)) := by simp
    simp only [putCells, Array.getElem?_mapIdx, hC, Option.map_some]
    rw [if_pos ⟨Nat.zero_le _, by omega⟩, Nat.sub_zero, getElem!_pos d' i (by omega)]
    have e3 : d'[i]'(by omega) = bytL srt[i] := by simp only [← hd', List.getElem_toArray, List.getElem_map]
    rw [e3]; rfl
  have hpl := hpre.length_le
  have hpe : ∀ i (hi : i < pre.length), srt[i]'(by omega) = pre[i] := fun i hi => (hpre.getElem hi).symm
  have hrow : RowB c (putRow encStr w b 0 d') true b cap 1 (pre.map eStr) (fun q => q = b) := by
    refine ⟨_, el, fz, fun _ _ _ => False, hw1, fun i hi => a2 i (by rw [hcs] at hi; exact hi), by rw [List.length_map]; omega, a4, by rw [hcs]; exact a5, fun e he => ?_, fun i j y v hy hv => ?_, fun i j y v hy hv => ?_, fun _ _ h => h, fun _ _ _ _ _ h => h.elim, fun _ _ _ h => h.elim, fun q => ⟨.inl, fun h => h.elim id fun ⟨_, _, h⟩ => h.elim⟩⟩
    · obtain ⟨y, _, rfl⟩ := List.mem_map.1 he; rfl
    · obtain ⟨hi, rfl, rfl⟩ := elt_str hy
      rw [Nat.mul_one, Nat.add_zero, hget i (by omega), hpe i hi] at hv
      cases hv; rfl
    · obtain ⟨hi, rfl, rfl⟩ := elt_str hy
      rw [Nat.mul_one, Nat.add_zero, hget i (by omega), hpe i hi] at hv
      cases hv
      exact .inl (.plain rfl (.lit _) (fun _ h => h))
  have hother : ∀ q, q ≠ b → (putRow encStr w b 0 d').heap[q]? = w.heap[q]? := fun q hq => by
    simp only [putRow, mapBlock, Array.getElem?_modify, if_neg (Ne.symm hq)]
  have h2 := h.setBlk (w' := putRow encStr w b 0 d') (k' := .row true 1 (pre.map eStr)) hs (G := fun q => q = b) (fun q hq => by subst hq; exact (a12 q).2 (.inl rfl)) (fun q hq => hother q fun e => hq (by subst e; exact .inr ⟨_, _, hat⟩)) (by simp [putRow, mapBlock]) rfl rfl rfl (.inr ⟨b, cap, hat, hrow⟩)
  have hbel : Bel (putRow encStr w b 0 d').heap.size (putRow encStr w b 0 d') (grow (putRow encStr (Go.Sort.ahead w m) b 0 d') os) := bel_of_grow (putRow encStr w b 0 d') m os
  exact ⟨_, h2.world hbel⟩
theorem holds_str {b cap : Nat} {l : List ByteArray} {f : Nat → Prop} (hRB : RowB c w true b cap 1 (l.map eStr) f) : Go.Sort.Holds encStr w b 0 (l.map bytL).toArray ∧ b < w.heap.size ∧ l.length ≤ cap := by
  obtain ⟨C, el, fz, G, a1, a2, a3, a4, a5, a6, a7, a8, a9, a10, a11, a12⟩ := id hRB
  simp only [List.length_map] at a3
  refine ⟨fun i hi => ?_, (Array.getElem?_eq_some_iff.1 a1).1, a3⟩
  have hi' : i < l.length := by simpa using hi
  obtain ⟨v, hv⟩ : ∃ v, C[i]? = some v := ⟨C[i]'(by omega), by simp⟩
  have h2 := (a8 i 0 _ v (str_elt hi') (by rw [Nat.mul_one, Nat.add_zero]; exact hv)).resolve_right (by simp)
  have hc : C[i]? = some (.string l[i]) := by
    rw [hv]
    cases h2 with
    | plain _ h3 _ => cases h3; rfl
  have hz := a2 i (by omega)
  refine ⟨?_, ?_⟩
  · simp only [World.cell?, a1, Option.isSome_none, Bool.false_eq_true, if_false, Nat.zero_add, hc]
    rw [getElem!_pos _ i (by simpa using hi')]
    simp only [List.getElem_toArray, List.getElem_map]
    rfl
  · simp only [World.frozen?, a1, Nat.zero_add]
    simpa using hz
theorem slice_at {s : Nat} {l : List ByteArray} {x : Operand} (h : H w0 L n σ a w c F) (hx : σ.get x = .one (.loc s 0 l.length)) (hs : σ.mem s = some (.row true 1 (l.map eStr))) :
    (l = [] ∧ ∃ A cap, a.eval x = .slice A 0 cap ∧ cap ≤ maxLen) ∨ (0 < l.length ∧ ∃ b cap, c.at_ s = some (.row b cap 1) ∧ RowB c w true b cap 1 (l.map eStr) (F s) ∧ a.eval x = .slice (some ⟨b, 0, none⟩) l.length cap ∧ cap ≤ maxLen) := by
  have gx := h.get x
  rw [hx] at gx
  obtain ⟨gx, _⟩ := gx
  rcases h.mem s _ hs with ⟨hat, hl0, _⟩ | ⟨b, cap, hat, hRB⟩
  · have hl : l = [] := by simpa using hl0
    subst hl
    refine .inl ⟨rfl, ?_⟩
    generalize a.eval x = X at gx ⊢
    cases gx with
    | loc h1 => rw [hat] at h1; cases h1
    | locnil => exact ⟨none, 0, rfl, by simp [maxLen]⟩
  · obtain ⟨C, el, fz, G, a1, a2, a3, a4, a5, a6, a7, a8, a9, a10, a11, a12⟩ := id hRB
    have hX : ∃ A, a.eval x = .slice A l.length cap ∧ (0 < cap → A = some ⟨b, 0, none⟩) := by
      generalize hq : l.length = q at gx
      generalize a.eval x = X at gx ⊢
      cases gx with
      | locnil h1 => rw [hat] at h1; cases h1
      | @loc _ _ _ b' cap' sz' A h1 hle hA =>
        rw [hat] at h1; cases h1
        exact ⟨A, rfl, fun hc0 => by simpa using hA hc0⟩
    obtain ⟨A, hX, hA⟩ := hX
    rcases Nat.eq_zero_or_pos l.length with hl | hl
    · have hl' : l = [] := List.eq_nil_of_length_eq_zero hl
      refine .inl ⟨hl', A, cap, ?_, a4⟩
      rw [hX, hl]
    · simp only [List.length_map] at a3
      have hA := hA (by omega)
      subst hA
      exact .inr ⟨hl, b, cap, hat, hRB, hX, a4⟩
theorem set_same {s : Nat} {k : Blk} (hs : σ.mem s = some k) : σ.set s k = σ := by
  have : (fun s' => if s' = s then some k else σ.mem s') = σ.mem := by
    funext s'
    split
    · rename_i e; subst e; exact hs.symm
    · rfl
  simp only [AS.set, this]
end
def sortLay_ren : Go.Shelf.Ren := ⟨fun | 190 => 92 | 125 => 132 | 258 => 131 | 128 => 165 | 129 => 166 | 302 => 156 | 303 => 157 | 304 => 158 | 305 => 159 | 306 => 160 | 307 => 161 | 308 => 162 | 309 => 163 | 310 => 164 | 333 => 182 | 329 => 183 | 330 => 184 | 334 => 185 | 335 => 186 | 336 => 187 | 344 => 197 | n => n, fun | 31 => 52 | 9 => 9 | 3 => 3 | 46 => 175 | 0 => 0 | 51 => 148 | 53 => 193 | 4 => 4 | 183 => 203 | 182 => 202 | 131 => 99 | 5 => 5 | 218 => 225 | 222 => 229 | 228 => 241 | 229 => 242 | n => n, fun | n => n⟩
theorem sortLay : Go.Proofs.Lays.n190 Tryz.prog sortLay_ren := {
  mixed := by kernel_rfl
  f125 := Tryz.func132.trans (congrArg some (by kernel_rfl))
  f128 := Tryz.func165.trans (congrArg some (by kernel_rfl))
  f129 := Tryz.func166.trans (congrArg some (by kernel_rfl))
  f190 := Tryz.func92.trans (congrArg some (by kernel_rfl))
  f258 := Tryz.func131.trans (congrArg some (by kernel_rfl))
  f302 := Tryz.func156.trans (congrArg some (by kernel_rfl))
  f303 := Tryz.func157.trans (congrArg some (by kernel_rfl))
  f304 := Tryz.func158.trans (congrArg some (by kernel_rfl))
  f305 := Tryz.func159.trans (congrArg some (by kernel_rfl))
  f306 := Tryz.func160.trans (congrArg some (by kernel_rfl))
  f307 := Tryz.func161.trans (congrArg some (by kernel_rfl))
  f308 := Tryz.func162.trans (congrArg some (by kernel_rfl))
  f309 := Tryz.func163.trans (congrArg some (by kernel_rfl))
  f310 := Tryz.func164.trans (congrArg some (by kernel_rfl))
  f329 := Tryz.func183.trans (congrArg some (by kernel_rfl))
  f330 := Tryz.func184.trans (congrArg some (by kernel_rfl))
  f333 := Tryz.func182.trans (congrArg some (by kernel_rfl))
  f334 := Tryz.func185.trans (congrArg some (by kernel_rfl))
  f335 := Tryz.func186.trans (congrArg some (by kernel_rfl))
  f336 := Tryz.func187.trans (congrArg some (by kernel_rfl))
  f344 := Tryz.func197.trans (congrArg some (by kernel_rfl))
  t0 := Tryz.underlying0
  a0 := Tryz.isAgg0
  z0 := Tryz.sizeOf0
  v0 := Tryz.zeroValue0
  t3 := Tryz.underlying3
  a3 := Tryz.isAgg3
  z3 := Tryz.sizeOf3
  v3 := Tryz.zeroValue3
  t4 := Tryz.underlying4
  a4 := Tryz.isAgg4
  z4 := Tryz.sizeOf4
  v4 := Tryz.zeroValue4
  t5 := Tryz.underlying5
  a5 := Tryz.isAgg5
  z5 := Tryz.sizeOf5
  v5 := Tryz.zeroValue5
  t9 := Tryz.underlying9
  a9 := Tryz.isAgg9
  z9 := Tryz.sizeOf9
  v9 := Tryz.zeroValue9
  t31 := Tryz.underlying52
  a31 := Tryz.isAgg52
  z31 := Tryz.sizeOf52
  v31 := Tryz.zeroValue52
  t46 := Tryz.underlying175
  a46 := Tryz.isAgg175
  z46 := Tryz.sizeOf175
  v46 := Tryz.zeroValue175
  t51 := Tryz.underlying148
  a51 := Tryz.isAgg148
  z51 := Tryz.sizeOf148
  v51 := Tryz.zeroValue148
  t53 := Tryz.underlying193
  a53 := Tryz.isAgg193
  z53 := Tryz.sizeOf193
  v53 := Tryz.zeroValue193
  t131 := Tryz.underlying99
  a131 := Tryz.isAgg99
  z131 := Tryz.sizeOf99
  v131 := Tryz.zeroValue99
  t182 := Tryz.underlying202
  a182 := Tryz.isAgg202
  z182 := Tryz.sizeOf202
  v182 := Tryz.zeroValue202
  t183 := Tryz.underlying203
  a183 := Tryz.isAgg203
  z183 := Tryz.sizeOf203
  v183 := Tryz.zeroValue203
  t218 := Tryz.underlying225
  a218 := Tryz.isAgg225
  z218 := Tryz.sizeOf225
  v218 := Tryz.zeroValue225
  t222 := Tryz.underlying229
  a222 := Tryz.isAgg229
  z222 := Tryz.sizeOf229
  v222 := Tryz.zeroValue229
  t228 := Tryz.underlying241
  a228 := Tryz.isAgg241
  z228 := Tryz.sizeOf241
  v228 := Tryz.zeroValue241
  t229 := Tryz.underlying242
  a229 := Tryz.isAgg242
  z229 := Tryz.sizeOf242
  v229 := Tryz.zeroValue242 }
def compLay_ren : Go.Shelf.Ren := ⟨fun | 194 => 93 | n => n, fun | 31 => 52 | 9 => 9 | 3 => 3 | 4 => 4 | 0 => 0 | n => n, fun | n => n⟩
theorem compLay : Go.Proofs.Lays.n194 Tryz.prog compLay_ren := {
  mixed := by kernel_rfl
  f194 := Tryz.func93.trans (congrArg some (by kernel_rfl))
  t0 := Tryz.underlying0
  a0 := Tryz.isAgg0
  z0 := Tryz.sizeOf0
  v0 := Tryz.zeroValue0
  t3 := Tryz.underlying3
  a3 := Tryz.isAgg3
  z3 := Tryz.sizeOf3
  v3 := Tryz.zeroValue3
  t4 := Tryz.underlying4
  a4 := Tryz.isAgg4
  z4 := Tryz.sizeOf4
  v4 := Tryz.zeroValue4
  t9 := Tryz.underlying9
  a9 := Tryz.isAgg9
  z9 := Tryz.sizeOf9
  v9 := Tryz.zeroValue9
  t31 := Tryz.underlying52
  a31 := Tryz.isAgg52
  z31 := Tryz.sizeOf52
  v31 := Tryz.zeroValue52 }
def sortS (l : List ByteArray) : List ByteArray := ((l.map bytL).mergeSort fun x y => decide (x ≤ y)).map txtOf
def cmpS2 (l : List ByteArray) : List ByteArray := (Go.Lib.compact (l.map bytL)).map txtOf
theorem map_bt (l : List (List UInt8)) : (l.map txtOf).map bytL = l := by rw [List.map_map, show bytL ∘ txtOf = id from rfl, List.map_id]
theorem sortS_len (l : List ByteArray) : (sortS l).length = l.length := by simp [sortS]
theorem sortStr_ok {σ : AS} {s : Nat} {l : List ByteArray} {x : Operand} (hx : σ.get x = .one (.loc s 0 l.length)) (hs : σ.mem s = some (.row true 1 (l.map eStr))) (hlen : l.length ≤ 1000000) :
    CallOk Tryz.prog 92 [x] σ (σ.set s (.row true 1 ((sortS l).map eStr))) (.tup []) := by
  refine ⟨⟨_, Tryz.func92, rfl, by kernel_rfl⟩, fun w0 L n a w ⟨c, F, h⟩ => ?_⟩
  rcases slice_at h hx hs with ⟨rfl, A, cap, hX, hcap⟩ | ⟨hl, b, cap, hat, hRB, hX, hcap⟩
  · show Calls _ _ #[a.eval x] w _
    rw [hX]
    refine (Go.Proofs.Any.slices_Sort_string_none sortLay A cap w).mono ?_
    rintro e w' ⟨rfl, rfl⟩
    have : sortS [] = [] := by simp [sortS]
    rw [this, set_same hs]
    exact ⟨_, c, F, rfl, h, trivial⟩
  · obtain ⟨hH, hb, hc⟩ := holds_str hRB
    show Calls _ _ #[a.eval x] w _
    rw [hX]
    have key := Go.Proofs.Any.slices_Sort_string sortLay b 0 cap (l.map bytL) w hH hb (by rw [List.length_map]; omega)
    rw [List.length_map] at key
    refine key.mono ?_
    rintro e w' ⟨rfl, m, os, rfl⟩
    have hcore := place_core (m := m) (os := os) (List.prefix_refl (sortS l)) h hs hat hRB (sortS_len l)
    rw [show (sortS l).map bytL = (l.map bytL).mergeSort fun x y => decide (x ≤ y) from map_bt _] at hcore
    obtain ⟨F', h'⟩ := hcore
    exact ⟨_, c, F', rfl, h', trivial⟩
theorem compact_le (l : List (List UInt8)) : (Go.Lib.compact l).length ≤ l.length := by
  unfold Go.Lib.compact Go.Lib.compactUpTo
  rw [List.length_map]
  have := List.length_filter_le (Go.Lib.keeps l.toArray) (List.range l.length)
  simpa using this
theorem compact_mem (l : List (List UInt8)) (x : List UInt8) : x ∈ Go.Lib.compact l ↔ x ∈ l := by
  unfold Go.Lib.compact Go.Lib.compactUpTo
  rw [List.mem_map]
  constructor
  · rintro ⟨j, hj, rfl⟩
    have hj := List.mem_range.1 (List.mem_filter.1 hj).1
    rw [getElem!_pos l.toArray j (by simpa using hj)]
    simp only [List.getElem_toArray]
    exact List.getElem_mem _
  · intro hx
    obtain ⟨i, hi, rfl⟩ := List.getElem_of_mem hx
    have key : ∀ i (hi : i < l.length), ∃ j, j ∈ List.filter (Go.Lib.keeps l.toArray) (List.range l.length) ∧ l.toArray[j]! = l[i] := by
      intro i
      induction i with
      | zero =>
        intro hi
        refine ⟨0, List.mem_filter.2 ⟨List.mem_range.2 hi, by simp [Go.Lib.keeps]⟩, ?_⟩
        rw [getElem!_pos l.toArray 0 (by simpa using hi)]; rfl
      | succ i ih =>
        intro hi
        by_cases hk : Go.Lib.keeps l.toArray (i + 1) = true
        · refine ⟨i + 1, List.mem_filter.2 ⟨List.mem_range.2 hi, hk⟩, ?_⟩
          rw [getElem!_pos l.toArray (i + 1) (by simpa using hi)]; rfl
        · obtain ⟨j, h1, h2⟩ := ih (by omega)
          refine ⟨j, h1, ?_⟩
          unfold Go.Lib.keeps at hk
          simp only [decide_eq_true_eq] at hk
          have h3 : l.toArray[i + 1]! = l.toArray[i + 1 - 1]! := Classical.byContradiction fun h => hk (.inr h)
          rw [getElem!_pos l.toArray (i + 1) (by simpa using hi), show i + 1 - 1 = i by omega, getElem!_pos l.toArray i (by simp; omega)] at h3
          rw [h2]
          exact h3.symm
    exact key i hi
theorem cmpS_mem (l : List ByteArray) (x : ByteArray) : x ∈ cmpS2 (sortS l) ↔ x ∈ l := by
  have e : ∀ (m : List (List UInt8)) (x : ByteArray), x ∈ m.map txtOf ↔ bytL x ∈ m := fun m x => by
    rw [List.mem_map]
    exact ⟨fun ⟨y, hy, h⟩ => by rw [← h]; exact hy, fun h => ⟨_, h, rfl⟩⟩
  rw [cmpS2, e, compact_mem, sortS, map_bt, List.mem_mergeSort, List.mem_map]
  exact ⟨fun ⟨y, hy, h⟩ => by rw [← txt_bytL x, ← h, txt_bytL]; exact hy, fun h => ⟨x, h, rfl⟩⟩
theorem compStr_ok {σ : AS} {s : Nat} {l : List ByteArray} {x : Operand} (hx : σ.get x = .one (.loc s 0 l.length)) (hs : σ.mem s = some (.row true 1 (l.map eStr))) (hlen : l.length ≤ 1000000) :
    CallOk Tryz.prog 93 [x] σ (σ.set s (.row true 1 ((cmpS2 l).map eStr))) (.one (.loc s 0 (cmpS2 l).length)) := by
  refine ⟨⟨_, Tryz.func93, rfl, by kernel_rfl⟩, fun w0 L n a w ⟨c, F, h⟩ => ?_⟩
  have gx := h.get x
  rcases slice_at h hx hs with ⟨rfl, A, cap, hX, hcap⟩ | ⟨hl, b, cap, hat, hRB, hX, hcap⟩
  · show Calls _ _ #[a.eval x] w _
    rw [hX]
    refine (Go.Proofs.Any.slices_Compact_string_empty compLay A cap w).mono ?_
    rintro e w' ⟨rfl, rfl⟩
    have : cmpS2 [] = [] := by simp [cmpS2, Go.Lib.compact, Go.Lib.compactUpTo]
    rw [this, set_same hs]
    rw [hx, hX] at gx
    exact ⟨_, c, F, rfl, h, gx⟩
  · obtain ⟨hH, hb, hc⟩ := holds_str hRB
    show Calls _ _ #[a.eval x] w _
    rw [hX]
    have key := Go.Proofs.Any.slices_Compact_string compLay b 0 cap (l.map bytL) w hH (by rw [List.length_map]; omega) (by rw [List.length_map]; exact hc)
    rw [List.length_map] at key
    refine key.mono ?_
    rintro e w' ⟨rfl, m, rfl⟩
    have hle := compact_le (l.map bytL)
    rw [List.length_map] at hle
    have hcl : (cmpS2 l).length = (Go.Lib.compact (l.map bytL)).length := by rw [cmpS2, List.length_map]
    obtain ⟨srt, hsrt⟩ : ∃ srt, srt = cmpS2 l ++ List.replicate (l.length - (cmpS2 l).length) ByteArray.empty := ⟨_, rfl⟩
    have hcore := place_core (m := m) (os := #[]) (pre := cmpS2 l) (srt := srt) (by rw [hsrt]; exact List.prefix_append _ _) h hs hat hRB (by rw [hsrt, List.length_append, List.length_replicate]; omega)
    have hm : srt.map bytL = Go.Lib.compact (l.map bytL) ++ List.replicate (l.length - (Go.Lib.compact (l.map bytL)).length) [] := by
      rw [hsrt, List.map_append, List.map_replicate, hcl, cmpS2, map_bt]; rfl
    rw [hm, grow_empty] at hcore
    obtain ⟨F', h'⟩ := hcore
    refine ⟨_, c, F', rfl, h', ?_⟩
    have := R.loc (c := c) (w := putRow encStr (Go.Sort.ahead w m) b 0 (Go.Lib.compact (l.map bytL) ++ List.replicate (l.length - (Go.Lib.compact (l.map bytL)).length) []).toArray) (s := s) (off := 0) (len := (Go.Lib.compact (l.map bytL)).length) (A := some ⟨b, 0, none⟩) hat (by omega) (fun _ => by simp)
    rw [hcl]
    exact ⟨by simpa using this, rfl⟩
end Go.Proofs.YthdejoipdgahiaaGreatDoor
namespace Go.Proofs.YthdejoipdgahiaaGreatDoor
open Go.RowKit
set_option linter.unusedSimpArgs false
set_option linter.unusedVariables false
set_option maxRecDepth 100000
set_option maxHeartbeats 2000000
def namD (d : DDrive) : List ByteArray := (d.files.map DStored.name).filter objOk
def namA (ds : List DDrive) : List ByteArray := (ds.map namD).flatten
theorem namA_succ {ds : List DDrive} {i : Nat} (h : i < ds.length) : namA (ds.take (i + 1)) = namA (ds.take i) ++ namD ds[i] := by
  unfold namA
  rw [List.take_succ_eq_append_getElem h, List.map_append, List.flatten_append]; simp
theorem namD_len (d : DDrive) : (namD d).length ≤ d.files.length := by
  have := List.length_filter_le objOk (d.files.map DStored.name)
  simpa [namD] using this
theorem namA_len {ds : List DDrive} (h : ∀ d ∈ ds, d.files.length ≤ 60) : (namA ds).length ≤ 60 * ds.length := by
  unfold namA
  induction ds with
  | nil => simp
  | cons d ds ih =>
    have h1 := namD_len d
    have h2 := h d (by simp)
    have h3 := ih fun e he => h e (by simp [he])
    rw [List.map_cons, List.flatten_cons, List.length_append, List.length_cons]; omega
theorem filt_succ {l : List ByteArray} {j : Nat} (h : j < l.length) : (l.take (j + 1)).filter objOk = (l.take j).filter objOk ++ (if objOk l[j] = true then [l[j]] else []) := by
  rw [List.take_succ_eq_append_getElem h, List.filter_append]
  congr 1
  by_cases hh : objOk l[j] = true
  · rw [if_pos hh, List.filter_cons_of_pos hh]; rfl
  · rw [if_neg hh, List.filter_cons_of_neg hh]; rfl
theorem strs_nb (l : List ByteArray) : (T.one (.row true 1 (l.map eStr))).nb = true := by
  show AV.nb (4 + 1) _ = true
  exact nb_map (n := 4) (fun y => rfl) _
theorem namesThat_c {k m : Int} {ds : List DDrive} (hl : ds.length ≤ 14) (hok : ∀ d ∈ ds, d.ok) (h60 : ∀ d ∈ ds, d.files.length ≤ 60) (hnm : ∀ d ∈ ds, ∀ f ∈ d.files, f.name.size ≤ 4294967296) :
    Fun1 Tryz.prog 62 [.agg (DArray.enc ⟨k, m, ds⟩), .one (.fn 25 [])] (.one (.row true 1 ((cmpS2 (sortS (namA ds))).map eStr))) := by
  have hall : ∀ i, (namA (ds.take i)).length ≤ 840 := fun i => by
    have := namA_len (ds := ds.take i) fun d hd => h60 d (List.mem_of_mem_take hd)
    rw [List.length_take] at this
    omega
  have hfull : namA (ds.take ds.length) = namA ds := by rw [List.take_length]
  refine fun1_of_vc tb_ok mix (fn := Tryz.f62) Tryz.func62 rfl (by kernel_rfl) (by kernel_rfl) (by simp [Tryz.f62]) (by exact strs_nb _) ?_
  (conv => whnf)
  refine ⟨LG (fun i : Nat => i ≤ ds.length) (fun i => ds.length - i) (fun i => AS.of [(1, .one (.fn 25 [])), (5, .one (.loc 480 0 (namA (ds.take i)).length)), (11, .one (.row false 2 (ds.map DDrive.enc))), (12, .one (vN ds.length)), (13, .one (vN i))] [(480, .row true 1 ((namA (ds.take i)).map eStr))]),
    lg_init 0 (by omega) (weak_nil 5 480 1 rfl rfl (weak_of (all_cons rfl (all_cons rfl (all_cons rfl (all_cons (eq_int rfl (by simp)) (all_cons rfl all_nil))))) allsA rfl rfl)), ?_⟩
  rintro σ j ⟨i, hi, rfl, rfl⟩
  have hai := hall i
  have hai1 := hall (i + 1)
  refine ⟨_, Weak.refl _, ?_⟩
  (conv => whnf)
  (split <;> rename_i hb <;> (try simp only [decide_eq_true_eq, decide_eq_false_iff_not, Bool.not_eq_true', Bool.not_eq_false', Bool.not_eq_true, Bool.not_eq_false, List.length_map] at hb) <;> conv => whnf)
  · have hlt : i < ds.length := by omega
    have hmem := List.getElem_mem hlt
    have hs := namA_succ hlt
    obtain ⟨nl, hnl⟩ : ∃ nl, ds[i].files.map DStored.name = nl := ⟨_, rfl⟩
    have hc := names_c ds[i] (hok _ hmem)
    rw [hnl] at hc
    have hnll : nl.length ≤ 60 := by rw [← hnl, List.length_map]; exact h60 _ hmem
    have hnD : namD ds[i] = nl.filter objOk := by rw [namD, hnl]
    rw [hnD] at hs
    have hsz : ∀ t ∈ nl, t.size ≤ 4294967296 := fun t ht => by
      rw [← hnl] at ht
      obtain ⟨f, hf, rfl⟩ := List.mem_map.1 ht
      exact hnm _ hmem f hf
    obtain ⟨pre, hpre⟩ : ∃ pre, namA (ds.take i) = pre := ⟨_, rfl⟩
    rw [hpre] at hs hai
    refine ⟨i, rfl, _, at_map hlt, ?_⟩; (conv => whnf)
    refine ⟨_, _, hc, lends_cons (lend_bor rfl rfl) lends_nil, ?_⟩; (conv => whnf)
    refine ⟨LG (fun w : Nat => w ≤ nl.length) (fun w => nl.length - w) (fun w => AS.of [(1, .one (.fn 25 [])), (5, .one (.loc 480 0 (pre ++ (nl.take w).filter objOk).length)), (11, .one (.row false 2 (ds.map DDrive.enc))), (12, .one (vN ds.length)), (13, .one (vN i)), (18, .one (.loc 288 0 nl.length)), (19, .one (vN nl.length)), (20, .one (vN w))] [(480, .row true 1 ((pre ++ (nl.take w).filter objOk).map eStr)), (288, .row true 1 (nl.map eStr))]),
      lg_init 0 (by omega) (weak_of (all_cons rfl (all_cons (eq_loc rfl (by rw [hpre]; simp)) (all_cons rfl (all_cons rfl (all_cons rfl (all_cons (eq_loc rfl (by simp)) (all_cons (eq_int rfl (by simp)) (all_cons rfl all_nil)))))))) (all_cons (eq_row rfl (by rw [hpre]; simp)) (all_cons rfl all_nil)) rfl rfl), ?_⟩
    rintro σ j ⟨w, hw, rfl, rfl⟩
    have hfl := List.length_filter_le objOk (nl.take w)
    rw [List.length_take] at hfl
    refine ⟨_, Weak.refl _, ?_⟩
    (conv => whnf)
    (split <;> rename_i hb2 <;> (try simp only [decide_eq_true_eq, decide_eq_false_iff_not, Bool.not_eq_true', Bool.not_eq_false', Bool.not_eq_true, Bool.not_eq_false, List.length_map] at hb2) <;> conv => whnf)
    · have hlw : w < nl.length := by omega
      have hfs := filt_succ hlw
      refine ⟨w, rfl, by omega, ?_⟩; (conv => whnf)
      refine ⟨_, at_map0 hlw, ?_⟩; (conv => whnf)
      refine ⟨_, _, objectImpl_c nl[w] (hsz _ (List.getElem_mem hlw)), lendA, ?_⟩; (conv => whnf)
      cases hob : objOk nl[w] with
      | true =>
        rw [if_pos hob] at hfs
        (conv => whnf)
        refine ⟨true, [eStr nl[w]], ⟨rfl, by simp [chunk], rfl, rfl⟩, ?_⟩; (conv => whnf)
        refine ⟨_, laid_map (f := eStr) (fun _ => rfl) [nl[w]], rfl, by simp, rfl, by simp [maxLen]; omega, by simp; omega, ?_⟩; (conv => whnf)
        (refine ⟨((w + 1 : Nat) : Int), by rw [← wrap64_id] <;> omega, ?_⟩; conv => whnf)
        exact lg_back (w + 1) (by omega) (by (try dsimp only); omega) (weak_of (all_cons rfl (all_cons (eq_loc rfl (by rw [hfs]; simp; omega)) (all_cons rfl (all_cons rfl (all_cons rfl (all_cons rfl (all_cons rfl (all_cons rfl all_nil)))))))) (all_cons (eq_row rfl (by rw [hfs]; simp)) (all_cons rfl all_nil)) rfl rfl)
      | false =>
        rw [if_neg (by rw [hob]; decide), List.append_nil] at hfs
        (conv => whnf)
        (refine ⟨((w + 1 : Nat) : Int), by rw [← wrap64_id] <;> omega, ?_⟩; conv => whnf)
        exact lg_back (w + 1) (by omega) (by (try dsimp only); omega) (weak_of (all_cons rfl (all_cons (eq_loc rfl (by rw [hfs])) (all_cons rfl (all_cons rfl (all_cons rfl (all_cons rfl (all_cons rfl (all_cons rfl all_nil)))))))) (all_cons (eq_row rfl (by rw [hfs])) (all_cons rfl all_nil)) rfl rfl)
    · have hwl : w = nl.length := by omega
      subst hwl
      have ht : (nl.take nl.length).filter objOk = nl.filter objOk := by rw [List.take_length]
      (refine ⟨((i + 1 : Nat) : Int), by rw [← wrap64_id] <;> omega, ?_⟩; conv => whnf)
      exact lg_back (i + 1) (by omega) (by (try dsimp only); omega) (weak_of (all_cons rfl (all_cons (eq_loc rfl (by rw [hs, ht])) (all_cons rfl (all_cons rfl (all_cons rfl all_nil))))) (all_cons (eq_row rfl (by rw [hs, ht])) all_nil) rfl rfl)
  · have hie : i = ds.length := by omega
    subst hie
    obtain ⟨A, hA⟩ : ∃ A, namA ds = A := ⟨_, rfl⟩
    have hfA : namA (ds.take ds.length) = A := by rw [hfull, hA]
    rw [hfA] at hai
    rw [hA]
    refine ⟨_, _, sortStr_ok (s := 480) (l := A) (eq_loc rfl (by rw [hfA])) (eq_row rfl (by rw [hfA])) (by omega), ?_⟩; (conv => whnf)
    refine ⟨_, _, compStr_ok (s := 480) (l := sortS A) (eq_loc rfl (by rw [sortS_len, hfA])) rfl (by rw [sortS_len]; omega), ?_⟩; (conv => whnf)
    exact ⟨close_row rfl rfl (by simp) rfl, trivial⟩
end Go.Proofs.YthdejoipdgahiaaGreatDoor
namespace Go.Proofs.YthdejoipdgahiaaGreatDoor
open Go.RowKit
set_option linter.unusedSimpArgs false
set_option linter.unusedVariables false
set_option maxRecDepth 100000
set_option maxHeartbeats 4000000
theorem tw_len {α : Type} {p : α → Bool} : ∀ {l : List α} {k : Nat}, (∀ j (h : j < l.length), j < k → p l[j] = true) → k ≤ l.length → (∀ h : k < l.length, p l[k] = false) → (l.takeWhile p).length = k
  | [], k, _, h2, _ => by simp at h2; simp [h2]
  | x :: l, 0, _, _, h3 => by
    have := h3 (by simp)
    simp at this
    simp [this]
  | x :: l, k + 1, h1, h2, h3 => by
    have h0 := h1 0 (by simp) (by omega)
    simp at h0
    rw [List.takeWhile_cons_of_pos h0, List.length_cons, tw_len (l := l) (k := k) (fun j hj hjk => by have := h1 (j + 1) (by simp; omega) (by omega); simpa using this) (by simpa using h2) (fun h => by have := h3 (by simp; omega); simpa using this)]
def putK (l : List ByteArray) (t : ByteArray) : Nat := (l.takeWhile fun x => bLt x t).length
def plcN (l : List ByteArray) (t : ByteArray) : List ByteArray := if l[putK l t]? = some t then l else l.take (putK l t) ++ [t] ++ l.drop (putK l t)
theorem plcN_mem {l : List ByteArray} {t x : ByteArray} : x ∈ plcN l t ↔ x = t ∨ x ∈ l := by
  unfold plcN
  split
  · rename_i h
    have := List.mem_of_getElem? h
    constructor
    · exact .inr
    · rintro (rfl | h) <;> assumption
  · have e := List.take_append_drop (putK l t) l
    constructor
    · intro h
      simp only [List.mem_append, List.mem_singleton] at h
      rcases h with (h | h) | h
      · exact .inr (List.mem_of_mem_take h)
      · exact .inl h
      · exact .inr (List.mem_of_mem_drop h)
    · rintro (rfl | h)
      · simp
      · rw [← e, List.mem_append] at h
        simp only [List.mem_append, List.mem_singleton]
        rcases h with h | h
        · exact .inl (.inl h)
        · exact .inr h
theorem plcN_len (l : List ByteArray) (t : ByteArray) : (plcN l t).length ≤ l.length + 1 := by
  unfold plcN; split
  · omega
  · simp; omega
theorem foldPut_len : ∀ (ts l : List ByteArray), (ts.foldl plcN l).length ≤ l.length + ts.length
  | [], l => by simp
  | t :: ts, l => by
    rw [List.foldl_cons]
    have := foldPut_len ts (plcN l t)
    have := plcN_len l t
    simp only [List.length_cons]; omega
theorem l09Put_c (l : List ByteArray) (hl : l.length ≤ 4294967295) (t : ByteArray) (hne : l[putK l t]? ≠ some t) : Fun1 Tryz.prog 60 [.one (.row true 1 (l.map eStr)), .one (.lit (.string t))] (.one (.row true 1 ((plcN l t).map eStr))) := by
  refine fun1_of_vc tb_ok mix (fn := Tryz.f60) Tryz.func60 rfl (by kernel_rfl) (by kernel_rfl) (by simp [Tryz.f60]) (by show AV.nb (4 + 1) _ = true; exact nb_map (n := 4) (fun y => eStr_nbn 4 y) _) ?_
  (conv => whnf)
  refine ⟨LG (fun i : Nat => i ≤ l.length ∧ ∀ j (h : j < l.length), j < i → bLt l[j] t = true) (fun i => l.length - i) (fun i => AS.of [(0, .one (.row true 1 (l.map eStr))), (1, .one (.lit (.string t))), (5, .one (.lit (.int .i64 (i : Nat))))] []), lg_init 0 ⟨by omega, fun t _ h => by omega⟩ (weak_of allsA allsA rfl rfl), ?_⟩
  rintro σ k ⟨i, ⟨hi, hc⟩, rfl, rfl⟩
  refine ⟨_, Weak.refl _, ?_⟩
  (conv => whnf)
  have out : ∀ (hk : putK l t = i), plcN l t = l.take i ++ [t] ++ l.drop i := fun hk => by unfold plcN; rw [if_neg hne, hk]
  (split <;> rename_i h <;> (try simp only [decide_eq_true_eq, decide_eq_false_iff_not, Bool.not_eq_true', Bool.not_eq_false', Bool.not_eq_true, Bool.not_eq_false, List.length_map] at h) <;> conv => whnf)
  · have hlt : i < l.length := by omega
    refine ⟨i, rfl, _, at_map hlt, ?_⟩; (conv => whnf)
    (split <;> rename_i h2 <;> (try simp only [decide_eq_true_eq, decide_eq_false_iff_not, Bool.not_eq_true', Bool.not_eq_false', Bool.not_eq_true, Bool.not_eq_false, List.length_map] at h2) <;> conv => whnf)
    · (refine ⟨((i + 1 : Nat) : Int), by rw [← wrap64_id] <;> omega, ?_⟩; conv => whnf)
      exact lg_back (i + 1) ⟨by omega, fun j h hj => by
        by_cases e : j = i
        · subst e; exact h2
        · exact hc j h (by omega)⟩ (by (try dsimp only); omega) (weak_of allsA allsA rfl rfl)
    · have hk : putK l t = i := tw_len (p := fun x => bLt x t) hc hi fun _ => by show sless _ _ = false; simpa using h2
      (split <;> rename_i h3 <;> (try simp only [decide_eq_true_eq, decide_eq_false_iff_not, Bool.not_eq_true', Bool.not_eq_false', Bool.not_eq_true, Bool.not_eq_false, List.length_map] at h3) <;> conv => whnf)
      · refine ⟨i, rfl, _, at_map hlt, ?_⟩; (conv => whnf)
        (split <;> rename_i h4 <;> (try simp only [decide_eq_true_eq, decide_eq_false_iff_not, Bool.not_eq_true', Bool.not_eq_false', Bool.not_eq_true, Bool.not_eq_false, List.length_map] at h4) <;> conv => whnf)
        · exact absurd (by rw [hk, List.getElem?_eq_getElem hlt, h4]) hne
        · have he := out hk
          refine ⟨by decide, by simp, by simp; omega, (l.take i).map eStr, by simp [List.map_take], ?_⟩; (conv => whnf)
          refine ⟨true, _, ⟨rfl, rfl, rfl⟩, ?_⟩; (conv => whnf)
          refine ⟨_, laid_map (f := eStr) (fun _ => rfl) (l.take i), rfl, rfl, rfl, by simp [maxLen, chunk]; omega, by simp [chunk]; omega, ?_⟩; (conv => whnf)
          refine ⟨true, [eStr t], ⟨rfl, by simp [chunk], rfl, by simp [chunk]; rfl⟩, ?_⟩; (conv => whnf)
          refine ⟨[eStr t], laid_map (f := eStr) (fun _ => rfl) [t], rfl, by simp [chunk], rfl, by simp [maxLen, chunk]; omega, by simp [chunk]; omega, ?_⟩; (conv => whnf)
          refine ⟨by simp, by simp; omega, by simp, (l.drop i).map eStr, by simp only [List.map_drop]; exact (List.take_of_length_le (by simp)).symm, ?_⟩; (conv => whnf)
          refine ⟨true, _, ⟨rfl, rfl, rfl⟩, ?_⟩; (conv => whnf)
          refine ⟨_, laid_map (f := eStr) (fun _ => rfl) (l.drop i), rfl, by simp [chunk], rfl, by simp [maxLen, chunk]; omega, by simp [chunk]; omega, ?_⟩; (conv => whnf)
          exact ⟨close_row rfl rfl (by simp [chunk]; omega) (by rw [he]; simp [chunk]), trivial⟩
      · omega
  · have hk : putK l t = i := tw_len (p := fun x => bLt x t) hc hi fun h => by omega
    have he := out hk
    (split <;> rename_i h3 <;> (try simp only [decide_eq_true_eq, decide_eq_false_iff_not, Bool.not_eq_true', Bool.not_eq_false', Bool.not_eq_true, Bool.not_eq_false, List.length_map] at h3) <;> conv => whnf)
    · omega
    refine ⟨by decide, by simp, by simp; omega, (l.take i).map eStr, by simp [List.map_take], ?_⟩; (conv => whnf)
    refine ⟨true, _, ⟨rfl, rfl, rfl⟩, ?_⟩; (conv => whnf)
    refine ⟨_, laid_map (f := eStr) (fun _ => rfl) (l.take i), rfl, rfl, rfl, by simp [maxLen, chunk]; omega, by simp [chunk]; omega, ?_⟩; (conv => whnf)
    refine ⟨true, [eStr t], ⟨rfl, by simp [chunk], rfl, by simp [chunk]; rfl⟩, ?_⟩; (conv => whnf)
    refine ⟨[eStr t], laid_map (f := eStr) (fun _ => rfl) [t], rfl, by simp [chunk], rfl, by simp [maxLen, chunk]; omega, by simp [chunk]; omega, ?_⟩; (conv => whnf)
    refine ⟨by simp, by simp; omega, by simp, (l.drop i).map eStr, by simp only [List.map_drop]; exact (List.take_of_length_le (by simp)).symm, ?_⟩; (conv => whnf)
    refine ⟨true, _, ⟨rfl, rfl, rfl⟩, ?_⟩; (conv => whnf)
    refine ⟨_, laid_map (f := eStr) (fun _ => rfl) (l.drop i), rfl, by simp [chunk], rfl, by simp [maxLen, chunk]; omega, by simp [chunk]; omega, ?_⟩; (conv => whnf)
    exact ⟨close_row rfl rfl (by simp [chunk]; omega) (by rw [he]; simp [chunk]), trivial⟩
theorem l09Put_i (l : List ByteArray) (hl : l.length ≤ 4294967295) (t : ByteArray) (he : l[putK l t]? = some t) : FunId Tryz.prog 60 [.one (.row true 1 (l.map eStr)), .one (.lit (.string t))] 0 := by
  refine id_of_vc tb_ok 0 mix (fn := Tryz.f60) Tryz.func60 rfl (by kernel_rfl) (by kernel_rfl) (by simp [Tryz.f60]) rfl fun u hu => ?_
  obtain ⟨A, cap, h0, _⟩ := hu 0 true 1 (l.map eStr) rfl
  have e1 : litTs u 0 [T.one (.row true 1 (l.map eStr)), T.one (.lit (.string t))] = [T.one (.lit (.slice A l.length cap)), T.one (.lit (.string t))] := by simp [litTs, litT, litA, h0]
  have e2 : parM u [T.one (.row true 1 (l.map eStr)), T.one (.lit (.string t))] = memN [(.slice A l.length cap, .row true 1 (l.map eStr))] := by
    funext s
    match s with
    | 0 => simp [parM, memN, flatTs, flatT, h0]
    | 1 => simp [parM, memN, flatTs, flatT]
    | s + 2 => simp [parM, memN, flatTs, flatT]
  rw [e1, e2, h0, List.length_map]
  clear e1 e2 hu h0
  (conv => whnf)
  refine ⟨LG (fun i : Nat => i ≤ l.length ∧ ∀ j (h : j < l.length), j < i → bLt l[j] t = true) (fun i => l.length - i) (fun i => AS.of [(0, .one (.lit (.slice A l.length cap))), (1, .one (.lit (.string t))), (5, .one (.lit (.int .i64 (i : Nat))))] [(0, .par (.slice A l.length cap) (.row true 1 (l.map eStr)))]), lg_init 0 ⟨by omega, fun t _ h => by omega⟩ (weak_of allsA allsA rfl rfl), ?_⟩
  rintro σ k ⟨i, ⟨hi, hc⟩, rfl, rfl⟩
  refine ⟨_, Weak.refl _, ?_⟩
  (conv => whnf)
  (split <;> rename_i h <;> (try simp only [decide_eq_true_eq, decide_eq_false_iff_not, Bool.not_eq_true', Bool.not_eq_false', Bool.not_eq_true, Bool.not_eq_false, List.length_map] at h) <;> conv => whnf)
  · have hlt : i < l.length := by omega
    refine ⟨0, true, _, rfl, i, rfl, _, at_map hlt, ?_⟩; (conv => whnf)
    (split <;> rename_i h2 <;> (try simp only [decide_eq_true_eq, decide_eq_false_iff_not, Bool.not_eq_true', Bool.not_eq_false', Bool.not_eq_true, Bool.not_eq_false, List.length_map] at h2) <;> conv => whnf)
    · (refine ⟨((i + 1 : Nat) : Int), by rw [← wrap64_id] <;> omega, ?_⟩; conv => whnf)
      exact lg_back (i + 1) ⟨by omega, fun j h hj => by
        by_cases e : j = i
        · subst e; exact h2
        · exact hc j h (by omega)⟩ (by (try dsimp only); omega) (weak_of allsA allsA rfl rfl)
    · have hk : putK l t = i := tw_len (p := fun x => bLt x t) hc hi fun _ => by show sless _ _ = false; simpa using h2
      rw [hk, List.getElem?_eq_getElem hlt] at he
      (split <;> rename_i h3 <;> (try simp only [decide_eq_true_eq, decide_eq_false_iff_not, Bool.not_eq_true', Bool.not_eq_false', Bool.not_eq_true, Bool.not_eq_false, List.length_map] at h3) <;> conv => whnf)
      · refine ⟨0, true, _, rfl, i, rfl, _, at_map hlt, ?_⟩; (conv => whnf)
        (split <;> rename_i h4 <;> (try simp only [decide_eq_true_eq, decide_eq_false_iff_not, Bool.not_eq_true', Bool.not_eq_false', Bool.not_eq_true, Bool.not_eq_false, List.length_map] at h4) <;> conv => whnf)
        · exact ⟨close_lit, trivial⟩
        · exact absurd (Option.some.inj he) h4
      · omega
  · have hk : putK l t = i := tw_len (p := fun x => bLt x t) hc hi fun h => by omega
    rw [hk, List.getElem?_eq_none (by omega)] at he
    cases he
def putF' (l : List ByteArray) (ts : List ByteArray) : List ByteArray := (ts.filter objOk).foldl plcN l
theorem putF_succ {l nl : List ByteArray} {j : Nat} (h : j < nl.length) : putF' l (nl.take (j + 1)) = if objOk nl[j] = true then plcN (putF' l (nl.take j)) nl[j] else putF' l (nl.take j) := by
  unfold putF'
  rw [filt_succ h, List.foldl_append]
  split <;> rfl
def nmsA (ds : List DDrive) : List ByteArray := (namA ds).foldl plcN []
theorem nmsA_succ {ds : List DDrive} {i : Nat} (h : i < ds.length) : nmsA (ds.take (i + 1)) = putF' (nmsA (ds.take i)) (ds[i].files.map DStored.name) := by
  unfold nmsA
  rw [namA_succ h, List.foldl_append]; rfl
theorem fold_mem (ts : List ByteArray) : ∀ (l : List ByteArray) (x : ByteArray), x ∈ ts.foldl plcN l ↔ x ∈ ts ∨ x ∈ l := by
  induction ts with
  | nil => intro l x; simp
  | cons t ts ih =>
    intro l x
    rw [List.foldl_cons, ih, plcN_mem, List.mem_cons]
    constructor
    · rintro (h | h | h)
      · exact .inl (.inr h)
      · exact .inl (.inl h)
      · exact .inr h
    · rintro ((h | h) | h)
      · exact .inr (.inl h)
      · exact .inl h
      · exact .inr (.inr h)
theorem nmsA_mem (ds : List DDrive) (x : ByteArray) : x ∈ nmsA ds ↔ x ∈ namA ds := by rw [nmsA, fold_mem]; simp
theorem nmsA_len {ds : List DDrive} (h : ∀ d ∈ ds, d.files.length ≤ 60) : (nmsA ds).length ≤ 60 * ds.length := by
  have h1 := foldPut_len (namA ds) []
  have h2 := namA_len h
  unfold nmsA
  simp at h1; omega
theorem l09Names_c {k m : Int} {ds : List DDrive} (hl : ds.length ≤ 14) (h60 : ∀ d ∈ ds, d.files.length ≤ 60) (hnm : ∀ d ∈ ds, ∀ f ∈ d.files, f.name.size ≤ 4294967296) :
    Fun1 Tryz.prog 31 [.agg (DArray.enc ⟨k, m, ds⟩)] (.one (.row true 1 ((nmsA ds).map eStr))) := by
  have hall : ∀ i, (nmsA (ds.take i)).length ≤ 840 := fun i => by
    have := nmsA_len (ds := ds.take i) fun d hd => h60 d (List.mem_of_mem_take hd)
    rw [List.length_take] at this
    omega
  have hfull : nmsA (ds.take ds.length) = nmsA ds := by rw [List.take_length]
  refine fun1_of_vc tb_ok mix (fn := Tryz.f31) Tryz.func31 rfl (by kernel_rfl) (by kernel_rfl) (by simp [Tryz.f31]) (by exact strs_nb _) ?_
  (conv => whnf)
  refine ⟨LG (fun i : Nat => i ≤ ds.length) (fun i => ds.length - i) (fun i => AS.of [(1, .one (.ptr 16 0)), (3, .one (.loc 112 0 (nmsA (ds.take i)).length)), (4, .one (vN i))] [(16, .var (DArray.enc ⟨k, m, ds⟩)), (112, .row true 1 ((nmsA (ds.take i)).map eStr))]),
    lg_init 0 (by omega) (weak_of allsA allsA rfl rfl), ?_⟩
  rintro σ j ⟨i, hi, rfl, rfl⟩
  have hai := hall i
  refine ⟨_, Weak.refl _, ?_⟩
  (conv => whnf)
  (split <;> rename_i hb <;> (try simp only [decide_eq_true_eq, decide_eq_false_iff_not, Bool.not_eq_true', Bool.not_eq_false', Bool.not_eq_true, Bool.not_eq_false, List.length_map] at hb) <;> conv => whnf)
  · have hlt : i < ds.length := by omega
    have hmem := List.getElem_mem hlt
    have hs := nmsA_succ hlt
    obtain ⟨nl, hnl⟩ : ∃ nl, ds[i].files.map DStored.name = nl := ⟨_, rfl⟩
    rw [hnl] at hs
    have hnll : nl.length ≤ 60 := by rw [← hnl, List.length_map]; exact h60 _ hmem
    have hflen : ds[i].files.length = nl.length := by rw [← hnl, List.length_map]
    have hsz : ∀ t ∈ nl, t.size ≤ 4294967296 := fun t ht => by
      rw [← hnl] at ht
      obtain ⟨f, hf, rfl⟩ := List.mem_map.1 ht
      exact hnm _ hmem f hf
    obtain ⟨pre, hpre⟩ : ∃ pre, nmsA (ds.take i) = pre := ⟨_, rfl⟩
    rw [hpre] at hs hai
    have hPl : ∀ w, (putF' pre (nl.take w)).length ≤ pre.length + 60 := fun w => by
      have h1 := foldPut_len ((nl.take w).filter objOk) pre
      have h2 := List.length_filter_le objOk (nl.take w)
      rw [List.length_take] at h2
      unfold putF'; omega
    refine ⟨LG (fun w : Nat => w ≤ nl.length) (fun w => nl.length - w) (fun w => AS.of [(1, .one (.ptr 16 0)), (3, .one (.loc 112 0 (putF' pre (nl.take w)).length)), (4, .one (vN i)), (5, .one (vN w))] [(16, .var (DArray.enc ⟨k, m, ds⟩)), (112, .row true 1 ((putF' pre (nl.take w)).map eStr))]),
      lg_init 0 (by omega) (weak_of (all_cons rfl (all_cons (eq_loc rfl (by rw [hpre]; rfl)) (all_cons rfl (all_cons rfl all_nil)))) (all_cons rfl (all_cons (eq_row rfl (by rw [hpre]; rfl)) all_nil)) rfl rfl), ?_⟩
    rintro σ j ⟨w, hw, rfl, rfl⟩
    have hp := hPl w
    refine ⟨_, Weak.refl _, ?_⟩
    (conv => whnf)
    refine ⟨i, rfl, _, at_map hlt, ?_⟩; (conv => whnf)
    (split <;> rename_i hb2 <;> (try simp only [decide_eq_true_eq, decide_eq_false_iff_not, Bool.not_eq_true', Bool.not_eq_false', Bool.not_eq_true, Bool.not_eq_false, List.length_map] at hb2) <;> conv => whnf)
    · have hlw : w < nl.length := by omega
      have hlf : w < ds[i].files.length := by omega
      have hfs := putF_succ (l := pre) hlw
      have hnw : nl[w] = (ds[i].files[w]).name := by simp only [← hnl, List.getElem_map]
      refine ⟨i, rfl, _, at_map hlt, ?_⟩; (conv => whnf)
      refine ⟨w, rfl, _, at_map hlf, ?_⟩; (conv => whnf)
      have hob := objectSpec_c nl[w] (hsz _ (List.getElem_mem hlw))
      rw [hnw] at hob hfs
      refine ⟨_, _, hob, lendA, ?_⟩; (conv => whnf)
      cases hoo : objOk (ds[i].files[w]).name with
      | true =>
        rw [if_pos hoo] at hfs
        obtain ⟨Q, hQ⟩ : ∃ Q, putF' pre (nl.take w) = Q := ⟨_, rfl⟩
        (conv => whnf)
        by_cases hq : Q[putK Q (ds[i].files[w]).name]? = some (ds[i].files[w]).name
        · have he : putF' pre (nl.take (w + 1)) = putF' pre (nl.take w) := by rw [hfs, hQ]; unfold plcN; rw [if_pos hq]
          refine ⟨_, _, id_ok (l09Put_i (putF' pre (nl.take w)) (by omega) (ds[i].files[w]).name (by rw [hQ]; exact hq)) rfl lendA, ?_⟩; (conv => whnf)
          (refine ⟨((w + 1 : Nat) : Int), by rw [← wrap64_id] <;> omega, ?_⟩; conv => whnf)
          exact lg_back (w + 1) (by omega) (by (try dsimp only); omega) (weak_of (all_cons rfl (all_cons (eq_loc rfl (by rw [he])) (all_cons rfl (all_cons rfl all_nil)))) (all_cons rfl (all_cons (eq_row rfl (by rw [he])) all_nil)) rfl rfl)
        · refine ⟨_, _, fun_ok 9 (l09Put_c (putF' pre (nl.take w)) (by omega) (ds[i].files[w]).name (by rw [hQ]; exact hq)) lendA (fun x hx => by rw [List.mem_singleton.1 hx]; rfl), ?_⟩; (conv => whnf)
          (refine ⟨((w + 1 : Nat) : Int), by rw [← wrap64_id] <;> omega, ?_⟩; conv => whnf)
          exact lg_back (w + 1) (by omega) (by (try dsimp only); omega) (weak_swap 112 9 (weak_of (all_cons rfl (all_cons (eq_loc rfl (by rw [hfs]; simp)) (all_cons rfl (all_cons rfl all_nil)))) (all_cons rfl (all_cons (eq_row rfl (by rw [hfs])) all_nil)) rfl rfl))
      | false =>
        rw [if_neg (by rw [hoo]; decide)] at hfs
        (conv => whnf)
        (refine ⟨((w + 1 : Nat) : Int), by rw [← wrap64_id] <;> omega, ?_⟩; conv => whnf)
        exact lg_back (w + 1) (by omega) (by (try dsimp only); omega) (weak_of (all_cons rfl (all_cons (eq_loc rfl (by rw [hfs])) (all_cons rfl (all_cons rfl all_nil)))) (all_cons rfl (all_cons (eq_row rfl (by rw [hfs])) all_nil)) rfl rfl)
    · have hwl : w = nl.length := by omega
      subst hwl
      have ht : putF' pre (nl.take nl.length) = putF' pre nl := by rw [List.take_length]
      (refine ⟨((i + 1 : Nat) : Int), by rw [← wrap64_id] <;> omega, ?_⟩; conv => whnf)
      exact lg_back (i + 1) (by omega) (by (try dsimp only); omega) (weak_of (all_cons rfl (all_cons (eq_loc rfl (by rw [hs, ht])) (all_cons rfl all_nil))) (all_cons rfl (all_cons (eq_row rfl (by rw [hs, ht])) all_nil)) rfl rfl)
  · have hie : i = ds.length := by omega
    subst hie
    exact ⟨close_row rfl rfl (by rw [hfull, List.length_map]) (by rw [hfull]), trivial⟩
end Go.Proofs.YthdejoipdgahiaaGreatDoor
namespace Go.Proofs.YthdejoipdgahiaaGreatDoor
open Go.RowKit
set_option linter.unusedSimpArgs false
set_option linter.unusedVariables false
set_option maxRecDepth 100000
set_option maxHeartbeats 4000000
def okO (k m : Nat) (ds : List DDrive) (name : ByteArray) : Bool := (stO k m (frO k m ds name) (k + m)).isSome
theorem objs_c {k m : Int} {ds : List DDrive} (hl : ds.length ≤ 14) (hok : ∀ d ∈ ds, d.ok) (h60 : ∀ d ∈ ds, d.files.length ≤ 60) (hnm : ∀ d ∈ ds, ∀ f ∈ d.files, f.name.size ≤ 4294967296) :
    Fun1 Tryz.prog 34 [.agg (DArray.enc ⟨k, m, ds⟩)] (.one (.row true 1 ((cmpS2 (sortS (namA ds))).map eStr))) := by
  have hc := namesThat_c (k := k) (m := m) hl hok h60 hnm
  refine fun1_of_vc tb_ok mix (fn := Tryz.f34) Tryz.func34 rfl (by kernel_rfl) (by kernel_rfl) (by simp [Tryz.f34]) (by exact strs_nb _) ?_
  (conv => whnf)
  refine ⟨_, _, hc, lends_cons (lend_bor rfl rfl) (lends_cons (lend_one (la_fn rfl all2_nil)) lends_nil), ?_⟩; (conv => whnf)
  exact ⟨close_row rfl rfl rfl rfl, trivial⟩
theorem surFn_c {k m : Nat} {ds : List DDrive} {name : ByteArray} (hk : 1 ≤ k ∧ k ≤ 8) (hm : m ≤ 6) (hdl : ds.length = k + m) (hd : ∀ d ∈ ds, driveOk d = true) (hl : ∀ d ∈ ds, d.files.length ≤ 4294967296) (htx : ∀ d ∈ ds, ∀ f ∈ d.files, f.text.size ≤ 20000) :
    Fun1 Tryz.prog 35 [.one (.lit (.string name)), .one (.bptr (DArray.enc ⟨k, m, ds⟩) 0)] (.one (.lit (.bool (!okO k m ds name)))) := by
  have hO := objImpl_c hk hm hdl hd hl htx (name := name)
  unfold objE at hO
  unfold okO
  cases hs : stO k m (frO k m ds name) (k + m) with
  | some f =>
    rw [hs] at hO
    refine fun1_of_vc tb_ok mix (fn := Tryz.f35) Tryz.func35 rfl (by kernel_rfl) (by kernel_rfl) (by simp [Tryz.f35]) (by rfl) ?_
    (conv => whnf)
    refine ⟨_, _, hO, lends_cons (lend_bor rfl rfl) (lends_cons (lend_one (la_lit rfl)) lends_nil), ?_⟩; (conv => whnf)
    exact ⟨close_bool rfl, trivial⟩
  | none =>
    rw [hs] at hO
    refine fun1_of_vc tb_ok mix (fn := Tryz.f35) Tryz.func35 rfl (by kernel_rfl) (by kernel_rfl) (by simp [Tryz.f35]) (by rfl) ?_
    (conv => whnf)
    refine ⟨_, _, hO, lends_cons (lend_bor rfl rfl) (lends_cons (lend_one (la_lit rfl)) lends_nil), ?_⟩; (conv => whnf)
    exact ⟨close_bool rfl, trivial⟩
theorem indexStr_c (l : List ByteArray) (g : FuncId) (xs : List AV) (p : ByteArray → Bool) (hl : l.length ≤ 4294967296) (hg : ∀ d ∈ l, Fun1 Tryz.prog g [.one (.lit (.string d)), .one (.bptr xs 0)] (.one (.lit (.bool (p d))))) :
    Fun1 Tryz.prog 61 [.one (.row true 1 (l.map eStr)), .one (.fn g [.bptr xs 0])] (.one (.lit (.int .i64 (match l.findIdx? p with | some i => (i : Int) | none => -1)))) := by
  refine fun1_of_vc tb_ok mix (fn := Tryz.f61) Tryz.func61 rfl (by kernel_rfl) (by kernel_rfl) (by simp [Tryz.f61]) (by rfl) ?_
  (conv => whnf)
  refine ⟨LG (fun i : Nat => i ≤ l.length ∧ ∀ j (h : j < l.length), j < i → p l[j] = false) (fun i => l.length - i) (fun i => AS.of [(0, .one (.row true 1 (l.map eStr))), (1, .one (.fn g [.bptr xs 0])), (7, .one (.lit (.int .i64 (l.length : Nat)))), (8, .one (.lit (.int .i64 (i : Nat))))] []), lg_init 0 ⟨by omega, fun j h h' => by omega⟩ (weak_of allsA allsA rfl rfl), ?_⟩
  rintro σ k ⟨i, ⟨hi, hc⟩, rfl, rfl⟩
  refine ⟨_, Weak.refl _, ?_⟩
  (conv => whnf)
  (split <;> rename_i h <;> (try simp only [decide_eq_true_eq, decide_eq_false_iff_not, Bool.not_eq_true', Bool.not_eq_false', Bool.not_eq_true, Bool.not_eq_false, List.length_map] at h) <;> conv => whnf)
  · have hlt : i < l.length := by omega
    refine ⟨i, rfl, _, at_map hlt, ?_⟩; (conv => whnf)
    refine ⟨_, _, hg l[i] (List.getElem_mem hlt), lends_cons (lend_one (la_lit rfl)) (lends_cons (lend_one (la_bptr rfl rfl)) lends_nil), ?_⟩; (conv => whnf)
    (split <;> rename_i h2 <;> (try simp only [decide_eq_true_eq, decide_eq_false_iff_not, Bool.not_eq_true', Bool.not_eq_false', Bool.not_eq_true, Bool.not_eq_false, List.length_map] at h2) <;> conv => whnf)
    · have : l.findIdx? p = some i := by
        rw [List.findIdx?_eq_some_iff_getElem]
        exact ⟨hlt, h2, fun j hj => by have := hc j (by omega) hj; simp [this]⟩
      rw [this]
      exact (by repeat' (first | exact trivial | exact close_int rfl | exact close_str rfl | exact close_bool rfl | exact close_int (by omega) | exact close_row rfl rfl (by first | rfl | simp) (by first | rfl | simp) | exact close_nil (by first | rfl | simp) | exact rfl | apply And.intro | apply closeTs_cons rfl))
    · (refine ⟨((i + 1 : Nat) : Int), by rw [← wrap64_id] <;> omega, ?_⟩; conv => whnf)
      exact lg_back (i + 1) ⟨by omega, fun j hj hji => by
        by_cases e : j = i
        · subst e; exact h2
        · exact hc j hj (by omega)⟩ (by (try dsimp only); omega) (weak_of allsA allsA rfl rfl)
  · have : l.findIdx? p = none := by
      rw [List.findIdx?_eq_none_iff]
      intro x hx
      obtain ⟨j, hj, rfl⟩ := List.getElem_of_mem hx
      exact hc j hj (by omega)
    rw [this]
    exact (by repeat' (first | exact trivial | exact close_int rfl | exact close_str rfl | exact close_bool rfl | exact close_int (by omega) | exact close_row rfl rfl (by first | rfl | simp) (by first | rfl | simp) | exact close_nil (by first | rfl | simp) | exact rfl | apply And.intro | apply closeTs_cons rfl))
theorem containsStr_c (l : List ByteArray) (g : FuncId) (xs : List AV) (p : ByteArray → Bool) (hl : l.length ≤ 4294967296) (hg : ∀ d ∈ l, Fun1 Tryz.prog g [.one (.lit (.string d)), .one (.bptr xs 0)] (.one (.lit (.bool (p d))))) :
    Fun1 Tryz.prog 33 [.one (.row true 1 (l.map eStr)), .one (.fn g [.bptr xs 0])] (.one (.lit (.bool (l.any p)))) := by
  refine fun1_of_vc tb_ok mix (fn := Tryz.f33) Tryz.func33 rfl (by kernel_rfl) (by kernel_rfl) (by simp [Tryz.f33]) (by rfl) ?_
  (conv => whnf)
  refine ⟨_, _, indexStr_c l g xs p hl hg, lends_cons (lend_one (la_row rfl rfl)) (lends_cons (lend_one (la_fn rfl (all2_cons (la_bptr rfl rfl) all2_nil))) lends_nil), ?_⟩; (conv => whnf)
  cases hq : l.findIdx? p with
  | some i =>
    have : l.any p = true := by
      rw [List.findIdx?_eq_some_iff_getElem] at hq
      obtain ⟨h1, h2, _⟩ := hq
      exact List.any_eq_true.2 ⟨_, List.getElem_mem h1, h2⟩
    rw [this]
    exact ⟨close_bool (by simp), trivial⟩
  | none =>
    have : l.any p = false := by
      rw [List.findIdx?_eq_none_iff] at hq
      rw [List.any_eq_false]; exact fun x hx => by simp [hq x hx]
    rw [this]
    exact ⟨close_bool (by simp), trivial⟩
end Go.Proofs.YthdejoipdgahiaaGreatDoor
namespace Go.Proofs.YthdejoipdgahiaaGreatDoor
open Go.RowKit
set_option linter.unusedSimpArgs false
set_option linter.unusedVariables false
set_option maxRecDepth 100000
set_option maxHeartbeats 4000000
def survR (x : DArray) : Bool := arrayOk x && (namA x.drives).all (okO x.k.toNat x.m.toNat x.drives)
theorem natArr3 {x : DArray} (h : arrayOk x = true) : ∃ k m : Nat, x = ⟨k, m, x.drives⟩ ∧ x.k.toNat = k ∧ x.m.toNat = m ∧ 1 ≤ k ∧ k ≤ 8 ∧ m ≤ 6 ∧ x.drives.length = k + m := by
  obtain ⟨_, _, h1, h2, h3, h4, h5⟩ := arrayOk_len h
  refine ⟨x.k.toNat, x.m.toNat, ?_, rfl, rfl, by omega, by omega, by omega, by omega⟩
  obtain ⟨k, m, ds⟩ := x
  simp only at h1 h3 ⊢
  rw [Int.toNat_of_nonneg (by omega), Int.toNat_of_nonneg h3]
theorem files_small3 {x : DArray} (h : arrayOk x = true) : ∀ d ∈ x.drives, d.files.length ≤ 60 ∧ ∀ f ∈ d.files, f.text.size ≤ 20000 := by
  intro d hd
  have hdo := (arrayOk_len h).2.1 d hd
  unfold driveOk at hdo
  simp only [Bool.and_eq_true, decide_eq_true_eq] at hdo
  refine ⟨hdo.1.1.1.1, fun f hf => ?_⟩
  have hfs := hdo.1.2
  obtain ⟨i, hi, rfl⟩ := List.getElem_of_mem hf
  unfold filesOk at hfs
  have := List.all_eq_true.1 hfs i (List.mem_range.2 hi)
  rw [fOk_eq hi] at this
  simp only [Bool.and_eq_true, decide_eq_true_eq] at this
  exact this.1.1.2
theorem all_mem {l l' : List ByteArray} (h : ∀ x, x ∈ l ↔ x ∈ l') (p : ByteArray → Bool) : l.all p = l'.all p := by
  rw [Bool.eq_iff_iff, List.all_eq_true, List.all_eq_true]
  exact ⟨fun q x hx => q x ((h x).2 hx), fun q x hx => q x ((h x).1 hx)⟩
theorem not_any (l : List ByteArray) (p : ByteArray → Bool) : (!l.any fun x => !p x) = l.all p := by
  induction l with
  | nil => rfl
  | cons x l ih => rw [List.any_cons, List.all_cons, Bool.not_or, ih, Bool.not_not]
theorem survImpl_c (x : DArray) (hx : x.ok) (hu : ∀ d ∈ x.drives, usedN d.files ≤ 1000000000000) : Fun1 Tryz.prog 15 [.agg x.enc] (.one (.lit (.bool (survR x)))) := by
  obtain ⟨r, hr⟩ : ∃ r, survR x = r := ⟨_, rfl⟩
  rw [hr]
  unfold survR at hr
  cases h3 : arrayOk x with
  | false =>
    rw [h3, Bool.false_and] at hr
    subst hr
    refine fun1_of_vc tb_ok mix (fn := Tryz.f15) Tryz.func15 rfl (by kernel_rfl) (by kernel_rfl) (by simp [Tryz.f15]) (by rfl) ?_
    (conv => whnf)
    refine ⟨_, _, arrayImpl_c x hx hu, lendA, ?_⟩
    rw [h3]
    (conv => whnf)
    exact ⟨close_bool rfl, trivial⟩
  | true =>
    rw [h3, Bool.true_and] at hr
    obtain ⟨k, m, hxe, hk, hm, k1, k8, m6, hdl⟩ := natArr3 h3
    rw [hk, hm] at hr
    have hfs := files_small3 h3
    have hob := objs_c (k := (k : Int)) (m := (m : Int)) (ds := x.drives) (by omega) (fun d hd => hx.2.2.2 d hd) (fun d hd => (hfs d hd).1) (fun d hd f hf => ((hx.2.2.2 d hd).1.2 f hf).1)
    have hsf : ∀ name : ByteArray, _ := fun name => surFn_c (k := k) (m := m) (ds := x.drives) (name := name) ⟨k1, k8⟩ m6 hdl (arrayOk_len h3).2.1 (fun d hd => (hx.2.2.2 d hd).1.1) (fun d hd => (hfs d hd).2)
    have hlen : (cmpS2 (sortS (namA x.drives))).length ≤ 4294967296 := by
      have h1 := compact_le ((sortS (namA x.drives)).map bytL)
      have h2 := namA_len (fun d hd => (hfs d hd).1)
      rw [List.length_map, sortS_len] at h1
      rw [cmpS2, List.length_map]; omega
    have hcf := containsStr_c (cmpS2 (sortS (namA x.drives))) 35 (DArray.enc ⟨k, m, x.drives⟩) (fun name => !okO k m x.drives name) hlen (fun d _ => hsf d)
    have hres : (!(cmpS2 (sortS (namA x.drives))).any fun name => !okO k m x.drives name) = r := by rw [not_any, all_mem (cmpS_mem _), hr]
    obtain ⟨nl, hnl⟩ : ∃ nl, cmpS2 (sortS (namA x.drives)) = nl := ⟨_, rfl⟩
    rw [hnl] at hob hcf hres
    rw [← hxe] at hob hcf
    subst hres
    refine fun1_of_vc tb_ok mix (fn := Tryz.f15) Tryz.func15 rfl (by kernel_rfl) (by kernel_rfl) (by simp [Tryz.f15]) (by rfl) ?_
    (conv => whnf)
    refine ⟨_, _, arrayImpl_c x hx hu, lendA, ?_⟩
    rw [h3]
    (conv => whnf)
    refine ⟨_, _, hob, lends_cons (lend_bor rfl rfl) lends_nil, ?_⟩; (conv => whnf)
    refine ⟨_, _, hcf, lends_cons (lend_one (la_loc rfl rfl rfl (by simp) rfl)) (lends_cons (lend_one (la_fn rfl (all2_cons (la_ptr rfl rfl rfl (all2_cons (la_lit rfl) (all2_cons (la_lit rfl) (all2_cons (la_row rfl rfl) all2_nil)))) all2_nil))) lends_nil), ?_⟩; (conv => whnf)
    exact ⟨close_bool rfl, trivial⟩
def getC (k m : Nat) (ds : List DDrive) (name : ByteArray) : Nat := if filesN ds name (k + m) = 0 then 8 else if okO k m ds name = true then 0 else 10
theorem files_pos {k m : Nat} {ds : List DDrive} {name : ByteArray} (h : okO k m ds name = true) : filesN ds name (k + m) ≠ 0 := by
  unfold okO at h
  obtain ⟨f, hf⟩ := Option.isSome_iff_exists.1 h
  obtain ⟨j, hj, h1, -⟩ := stO_mem hf
  have h2 := (frO_good h1).2.1
  unfold isF at h2
  simp only [Bool.and_eq_true] at h2
  unfold filesN
  intro h0
  have hm : j ∈ (List.range (k + m)).filter (thereO ds name) := List.mem_filter.2 ⟨List.mem_range.2 hj, h2.1⟩
  rw [List.eq_nil_of_length_eq_zero h0] at hm
  cases hm
theorem getC_iff {k m : Nat} {ds : List DDrive} {name : ByteArray} : getC k m ds name = 0 ↔ okO k m ds name = true := by
  unfold getC
  constructor
  · intro h
    split at h
    · cases h
    · split at h
      · assumption
      · cases h
  · intro h
    rw [if_neg (files_pos h), if_pos h]
theorem l09Get_c {k m : Nat} {ds : List DDrive} {name : ByteArray} (hk : 1 ≤ k ∧ k ≤ 8) (hm : m ≤ 6) (hdl : ds.length = k + m) (hd : ∀ d ∈ ds, driveOk d = true) (hl : ∀ d ∈ ds, d.files.length ≤ 4294967296) (htx : ∀ d ∈ ds, ∀ f ∈ d.files, f.text.size ≤ 20000) :
    ∃ t : ByteArray, Fun1 Tryz.prog 32 [.agg (DArray.enc ⟨k, m, ds⟩), .one (.lit (.string name))] (.agg [.lit (.string t), vN (getC k m ds name)]) := by
  have hO := lookSpec_c hk hm hdl hd hl htx (name := name)
  unfold lookR lookE at hO
  have hob : oB k m (frO k m ds name) (k + m) = okO k m ds name := rfl
  rw [hob] at hO
  obtain ⟨C, hC⟩ : ∃ C, getC k m ds name = C := ⟨_, rfl⟩
  rw [hC]
  unfold getC at hC
  obtain ⟨fN, hfN⟩ : ∃ x, filesN ds name (k + m) = x := ⟨_, rfl⟩
  rw [hfN] at hC hO
  by_cases h0 : fN = 0
  · rw [if_pos h0] at hC
    subst hC
    refine ⟨.empty, ?_⟩
    refine fun1_of_vc tb_ok mix (fn := Tryz.f32) Tryz.func32 rfl (by kernel_rfl) (by kernel_rfl) (by simp [Tryz.f32]) (by rfl) ?_
    (conv => whnf)
    refine ⟨_, _, hO, lends_cons (lend_bor rfl rfl) (lends_cons (lend_one (la_lit rfl)) lends_nil), ?_⟩; (conv => whnf)
    (split <;> rename_i q <;> (try simp only [decide_eq_true_eq, decide_eq_false_iff_not, Bool.not_eq_true', Bool.not_eq_false', Bool.not_eq_true, Bool.not_eq_false, List.length_map] at q) <;> conv => whnf)
    · exact ⟨close_str rfl, close_int rfl, trivial⟩
    · exfalso; omega
  · rw [if_neg h0] at hC
    cases ho : okO k m ds name with
    | true =>
      rw [ho] at hC hO
      rw [if_pos rfl] at hC
      subst hC
      obtain ⟨tx, htx2⟩ : ∃ tx, stT k m (frO k m ds name) (k + m) = tx := ⟨_, rfl⟩
      rw [htx2] at hO
      refine ⟨tx, ?_⟩
      refine fun1_of_vc tb_ok mix (fn := Tryz.f32) Tryz.func32 rfl (by kernel_rfl) (by kernel_rfl) (by simp [Tryz.f32]) (by rfl) ?_
      (conv => whnf)
      refine ⟨_, _, hO, lends_cons (lend_bor rfl rfl) (lends_cons (lend_one (la_lit rfl)) lends_nil), ?_⟩; (conv => whnf)
      (split <;> rename_i q <;> (try simp only [decide_eq_true_eq, decide_eq_false_iff_not, Bool.not_eq_true', Bool.not_eq_false', Bool.not_eq_true, Bool.not_eq_false, List.length_map] at q) <;> conv => whnf)
      · exfalso; omega
      · exact ⟨close_str rfl, close_int rfl, trivial⟩
    | false =>
      rw [ho] at hC hO
      rw [if_neg (by decide)] at hC
      subst hC
      refine ⟨.empty, ?_⟩
      refine fun1_of_vc tb_ok mix (fn := Tryz.f32) Tryz.func32 rfl (by kernel_rfl) (by kernel_rfl) (by simp [Tryz.f32]) (by rfl) ?_
      (conv => whnf)
      refine ⟨_, _, hO, lends_cons (lend_bor rfl rfl) (lends_cons (lend_one (la_lit rfl)) lends_nil), ?_⟩; (conv => whnf)
      (split <;> rename_i q <;> (try simp only [decide_eq_true_eq, decide_eq_false_iff_not, Bool.not_eq_true', Bool.not_eq_false', Bool.not_eq_true, Bool.not_eq_false, List.length_map] at q) <;> conv => whnf)
      · exfalso; omega
      · exact ⟨close_str rfl, close_int rfl, trivial⟩
theorem survSpec_c (x : DArray) (hx : x.ok) (hu : ∀ d ∈ x.drives, usedN d.files ≤ 1000000000000) : Fun1 Tryz.prog 14 [.agg x.enc] (.one (.lit (.bool (survR x)))) := by
  obtain ⟨r, hr⟩ : ∃ r, survR x = r := ⟨_, rfl⟩
  rw [hr]
  unfold survR at hr
  cases h3 : arrayOk x with
  | false =>
    rw [h3, Bool.false_and] at hr
    subst hr
    refine fun1_of_vc tb_ok mix (fn := Tryz.f14) Tryz.func14 rfl (by kernel_rfl) (by kernel_rfl) (by simp [Tryz.f14]) (by rfl) ?_
    (conv => whnf)
    refine ⟨_, _, arraySpec_c x hx hu, lendA, ?_⟩
    rw [h3]
    (conv => whnf)
    exact ⟨close_bool rfl, trivial⟩
  | true =>
    rw [h3, Bool.true_and] at hr
    obtain ⟨k, m, hxe, hk, hm, k1, k8, m6, hdl⟩ := natArr3 h3
    rw [hk, hm] at hr
    have hfs := files_small3 h3
    have hob := l09Names_c (k := (k : Int)) (m := (m : Int)) (ds := x.drives) (by omega) (fun d hd => (hfs d hd).1) (fun d hd f hf => ((hx.2.2.2 d hd).1.2 f hf).1)
    have hget : ∀ name : ByteArray, _ := fun name => l09Get_c (k := k) (m := m) (ds := x.drives) (name := name) ⟨k1, k8⟩ m6 hdl (arrayOk_len h3).2.1 (fun d hd => (hx.2.2.2 d hd).1.1) (fun d hd => (hfs d hd).2)
    have hlen : (nmsA x.drives).length ≤ 4294967296 := by
      have h2 := nmsA_len (fun d hd => (hfs d hd).1)
      omega
    have hres : (nmsA x.drives).all (okO k m x.drives) = r := by rw [all_mem (nmsA_mem _), hr]
    obtain ⟨nl, hnl⟩ : ∃ nl, nmsA x.drives = nl := ⟨_, rfl⟩
    rw [hnl] at hob hlen hres
    rw [← hxe] at hob hget
    refine fun1_of_vc tb_ok mix (fn := Tryz.f14) Tryz.func14 rfl (by kernel_rfl) (by kernel_rfl) (by simp [Tryz.f14]) (by rfl) ?_
    (conv => whnf)
    refine ⟨_, _, arraySpec_c x hx hu, lendA, ?_⟩
    rw [h3]
    (conv => whnf)
    refine ⟨_, _, hob, lends_cons (lend_bor rfl rfl) lends_nil, ?_⟩; (conv => whnf)
    refine ⟨LG (fun i : Nat => i ≤ nl.length ∧ ∀ j (h : j < nl.length), j < i → okO k m x.drives nl[j] = true) (fun i => nl.length - i) (fun i => AS.of [(1, .one (.ptr 16 0)), (3, .one (.loc 144 0 nl.length)), (4, .one (vN i))] [(16, .var x.enc), (144, .row true 1 (nl.map eStr))]),
      lg_init 0 ⟨by omega, fun j _ h => by omega⟩ (weak_of (all_cons rfl (all_cons (eq_loc rfl (by rw [List.length_map])) (all_cons rfl all_nil))) (all_cons rfl (all_cons rfl all_nil)) rfl rfl), ?_⟩
    rintro σ j ⟨i, ⟨hi, hc⟩, rfl, rfl⟩
    refine ⟨_, Weak.refl _, ?_⟩
    (conv => whnf)
    (split <;> rename_i h <;> (try simp only [decide_eq_true_eq, decide_eq_false_iff_not, Bool.not_eq_true', Bool.not_eq_false', Bool.not_eq_true, Bool.not_eq_false, List.length_map] at h) <;> conv => whnf)
    · have hlt : i < nl.length := by omega
      obtain ⟨t, hg⟩ := hget nl[i]
      have hgi := getC_iff (k := k) (m := m) (ds := x.drives) (name := nl[i])
      refine ⟨i, rfl, by omega, ?_⟩; (conv => whnf)
      refine ⟨_, at_map0 hlt, ?_⟩; (conv => whnf)
      refine ⟨_, _, hg, lends_cons (lend_bor rfl rfl) (lends_cons (lend_one (la_lit rfl)) lends_nil), ?_⟩; (conv => whnf)
      (split <;> rename_i h2 <;> (try simp only [decide_eq_true_eq, decide_eq_false_iff_not, Bool.not_eq_true', Bool.not_eq_false', Bool.not_eq_true, Bool.not_eq_false, List.length_map] at h2) <;> conv => whnf)
      · have : r = false := by
          rw [← hres, List.all_eq_false]
          exact ⟨nl[i], List.getElem_mem hlt, fun e => by have := hgi.2 e; omega⟩
        rw [this]
        exact ⟨close_bool rfl, trivial⟩
      · (refine ⟨((i + 1 : Nat) : Int), by rw [← wrap64_id] <;> omega, ?_⟩; conv => whnf)
        exact lg_back (i + 1) ⟨by omega, fun j hj hji => by
          by_cases e : j = i
          · subst e; exact hgi.1 (by omega)
          · exact hc j hj (by omega)⟩ (by (try dsimp only); omega) (weak_of (all_cons rfl (all_cons rfl (all_cons rfl all_nil))) (all_cons rfl (all_cons rfl all_nil)) rfl rfl)
    · have : r = true := by
        rw [← hres, List.all_eq_true]
        intro y hy
        obtain ⟨j, hj, rfl⟩ := List.getElem_of_mem hy
        exact hc j hj (by omega)
      rw [this]
      exact ⟨close_bool rfl, trivial⟩
end Go.Proofs.YthdejoipdgahiaaGreatDoor
namespace Go.Proofs.YthdejoipdgahiaaGreatDoor
open Go.RowKit
set_option linter.unusedSimpArgs false
set_option linter.unusedVariables false
set_option maxRecDepth 100000
set_option maxHeartbeats 4000000
theorem used_of_wt4 {x : DArray} (hw : x.wt ≤ 1048576) : ∀ d ∈ x.drives, usedN d.files ≤ 1000000000000 := fun d hd => by
  have h1 : x.wt = wL DDrive.wt x.drives := rfl
  have h2 := wL_mem (f := DDrive.wt) hd
  have h3 : d.wt = wL DStored.wt d.files := rfl
  have h4 := usedN_le d.files
  omega
theorem fnExactSurvives_c (x0 : DArray) (h0 : x0.it) :
    Fun1 Tryz.prog 4 [.agg x0.enc] (.one (.lit (.bool true))) := by
  refine lawSurvives_c x0 h0 fun hw => ?_
  have hok := DArray.ok_of x0 h0 (by omega)
  exact ⟨survR x0, survSpec_c x0 hok (used_of_wt4 hw), survImpl_c x0 hok (used_of_wt4 hw)⟩
end Go.Proofs.YthdejoipdgahiaaGreatDoor
namespace Go.Proofs.YthdejoipdgahiaaGreatDoor.fnExactSurvives
open Go.ChangeShapes Go.WideShapes Go.ChangeAt Go.RowKit
theorem closed : joinedFacts Tryz.prog 4 Tryz.f4 Rows.fnExactSurvivesSpec Rows.fnExactSurvivesRow = true := by kernel_rfl
end Go.Proofs.YthdejoipdgahiaaGreatDoor.fnExactSurvives
namespace Go.Proofs.YthdejoipdgahiaaGreatDoor
open Go.RowKit
set_option linter.unusedSimpArgs false
set_option linter.unusedVariables false
def cAll (w : World) : Ctx := c0 fun k => k < w.heap.size
def OpensA {α : Type} (P : Program) (t : TypeId) (f : α → List AV) (ok : α → Prop) : Prop :=
  ∀ (H : Type) (enc : TypeId × Value → H) (w : World) (spare : Nat → Bool) (held : Bool) (fuel : Nat) (cs : List Value) (x : DataW H × List MemPlace), DataW.trod enc P w 0 spare held fuel t cs = some x → ∃ y, RL (cAll w) w (f y) cs ∧ ok y
section
variable {P : Program} {t e : TypeId} {α : Type} {f : α → List AV} {ok : α → Prop}
theorem opensA_int (ht : P.underlying t = some (.int .i64)) : OpensA P t (fun n : Int => [.lit (.int .i64 n)]) (fun n => -9223372036854775808 ≤ n ∧ n ≤ 9223372036854775807) := fun H enc w spare held fuel cs x h => by
  obtain ⟨n, rfl, _, hw⟩ := DataW.trod_int ht h
  simp only [Lit.wf, Bool.and_eq_true, decide_eq_true_eq] at hw
  have e1 : IntKind.i64.min = -9223372036854775808 := by rfl
  have e2 : IntKind.i64.max = 9223372036854775807 := by rfl
  exact ⟨n, ⟨⟨.lit _, rfl⟩, trivial⟩, by omega⟩
theorem opensA_str (ht : P.underlying t = some .string) : OpensA P t (fun s : ByteArray => [.lit (.string s)]) (fun s => s.size ≤ 9223372036854775807) := fun H enc w spare held fuel cs x h => by
  obtain ⟨s, rfl, _, hw⟩ := DataW.trod_string ht h
  exact ⟨s, ⟨⟨.lit _, rfl⟩, trivial⟩, hw⟩
theorem opensA_slice {k : Nat} (ht : P.underlying t = some (.slice e)) (hc : P.cellsOf e = k) (hk : 0 < k) (hf : ∀ x, (f x).all AV.isCell = true) (hl : ∀ x, (f x).length = k) (h : OpensA P e f ok) :
    OpensA P t (fun xs : List α => [.row true k (xs.map f)]) (fun xs => xs.length ≤ 9223372036854775807 ∧ ∀ x ∈ xs, ok x) := fun H enc w spare held fuel cs x hx => by
  rcases Go.Deep.open_slice ht hx with ⟨rfl, _⟩ | ⟨a, len, cap, m, n, D, Pl, rfl, _, hlc, hm, hmm, _, hel⟩
  · exact ⟨[], ⟨⟨.row 0 0 (fun _ _ => default) (Nat.le_refl _) (by simp) (by simp) (by simp) (by simp [elt]) (by simp [elt]) (by simp [elt]) (by simp [elt]), rfl⟩, trivial⟩, by simp, fun x hx => by cases hx⟩
  · have hlm : len ≤ m := by rw [hmm]; split <;> omega
    have hspot : 0 < len → a.spot = none ∧ a.block < w.heap.size := fun hp => by
      obtain ⟨cs', h1, _⟩ := hel 0 (by omega)
      obtain ⟨_, h3, h4⟩ := World.cells?_some h1
      rw [hc] at h3 h4
      have h5 := h4 0 hk
      have e0 : (a.add (0 * k)).add 0 = a := by simp [Addr.add]
      rw [e0, show cs'[0]? = some (cs'[0]'(by omega)) by simp] at h5
      unfold World.cell? at h5
      split at h5
      · rename_i hq
        split at h5
        · cases h5
        · rename_i hs
          exact ⟨by simpa using hs, (Array.getElem?_eq_some_iff.1 hq).1⟩
      · cases h5
    have key : ∀ i : Fin len, ∃ y : α, (∃ cs, RL (cAll w) w (f y) cs ∧ cs.length = k ∧ ∀ j v, cs[j]? = some v → w.cell? ⟨a.block, a.off + i.1 * k + j, none⟩ = some v) ∧ ok y := fun i => by
      obtain ⟨cs', h1, h2⟩ := hel i.1 (by have := i.2; omega)
      obtain ⟨y, hy, ho⟩ := h H enc w spare held n cs' _ h2
      obtain ⟨_, h3, h4⟩ := World.cells?_some h1
      rw [hc] at h3 h4
      refine ⟨y, ⟨cs', hy, h3, fun j v hv => ?_⟩, ho⟩
      have hj : j < k := by have := (List.getElem?_eq_some_iff.1 hv).1; omega
      have h5 := h4 j hj
      rw [hv] at h5
      have hsp := (hspot (by have := i.2; omega)).1
      have e1 : (a.add (i.1 * k)).add j = ⟨a.block, a.off + i.1 * k + j, none⟩ := by
        obtain ⟨b, o, sp⟩ := a
        simp only at hsp
        subst hsp
        simp only [Addr.add]
        split <;> split <;> simp_all
      rw [← e1]; exact h5
    let ys : List α := List.ofFn fun i => (key i).choose
    have hys : ys.length = len := by simp [ys]
    have hget : ∀ i (hi : i < len), ys[i]? = some (key ⟨i, hi⟩).choose := fun i hi => by simp [ys, hi]
    have helt : ∀ i j x, elt (ys.map f) i j = some x → ∃ hi : i < len, (f (key ⟨i, hi⟩).choose)[j]? = some x := fun i j x hx => by
      unfold elt at hx
      have hi : i < len := by
        rcases Nat.lt_or_ge i len with h1 | h1
        · exact h1
        · rw [List.getElem?_eq_none (by simp [hys]; exact h1)] at hx; cases hx
      rw [List.getElem?_map, hget i hi] at hx
      exact ⟨hi, hx⟩
    let vals : Nat → Nat → Value := fun i j => if hi : i < len then ((key ⟨i, hi⟩).choose_spec.1.choose[j]?).getD default else default
    have hval : ∀ i j x, elt (ys.map f) i j = some x → ∃ v, vals i j = v ∧ w.cell? ⟨a.block, a.off + i * k + j, none⟩ = some v ∧ (R (cAll w) w x v ∧ v.oneCell' = true) := fun i j x hx => by
      obtain ⟨hi, hx⟩ := helt i j x hx
      obtain ⟨h1, h2, h3⟩ := (key ⟨i, hi⟩).choose_spec.1.choose_spec
      have hj : j < k := by have := (List.getElem?_eq_some_iff.1 hx).1; rw [hl] at this; exact this
      have hv : (key ⟨i, hi⟩).choose_spec.1.choose[j]? = some ((key ⟨i, hi⟩).choose_spec.1.choose[j]'(by omega)) := by simp
      generalize (key ⟨i, hi⟩).choose_spec.1.choose[j]'(by omega) = v at hv
      refine ⟨v, by simp only [vals, dif_pos hi, hv, Option.getD_some], h3 j v hv, h1.at hx hv⟩
    refine ⟨ys, ⟨⟨?_, rfl⟩, trivial⟩, ?_, fun x hx => ?_⟩
    · have hlen : (ys.map f).length = len := by simp [hys]
      have := R.row (c := cAll w) (w := w) (own := true) (sz := k) (es := ys.map f) (A := some a) (cap := cap) a.block a.off vals (by rw [hlen]; exact hlc) hm (fun hp => by
          rw [hlen] at hp
          obtain ⟨h1, h2⟩ := hspot hp
          refine ⟨?_, h2⟩
          cases a; simp only at h1; subst h1; rfl)
        (fun e he => by obtain ⟨y, _, rfl⟩ := List.mem_map.1 he; exact hl y)
        (fun i j x hx => by
          obtain ⟨hi, hx⟩ := helt i j x hx
          exact List.all_eq_true.1 (hf _) x (List.mem_of_getElem? hx))
        (fun i j x hx => by obtain ⟨v, h1, h2, _⟩ := hval i j x hx; rw [h1]; exact h2)
        (fun i j x hx => by obtain ⟨v, h1, _, h2⟩ := hval i j x hx; rw [h1]; exact h2.2)
        (fun i j x hx => by obtain ⟨v, h1, _, h2⟩ := hval i j x hx; rw [h1]; exact h2.1)
      rw [hlen] at this
      exact this
    · rw [hys]; simp only [maxLen] at hm; omega
    · obtain ⟨i, rfl⟩ := List.mem_ofFn.1 hx
      exact (key i).choose_spec.2
theorem OpensA.mono {ok' : α → Prop} (h : OpensA P t f ok) (hk : ∀ x, ok x → ok' x) : OpensA P t f ok' := fun H enc w spare held fuel cs x hx => let ⟨y, hy, ho⟩ := h H enc w spare held fuel cs x hx; ⟨y, hy, hk y ho⟩
theorem opensA_fields {fs : Array Field} {H : Type} {enc : TypeId × Value → H} {w : World} {spare : Nat → Bool} {held : Bool} {fuel : Nat} {cs : List Value} {x : DataW H × List MemPlace} (ht : P.underlying t = some (.struct fs)) {k : Nat} (hk : P.cellsOf t = k) (h : DataW.trod enc P w 0 spare held fuel t cs = some x) :
    cs.length = k ∧ ∀ (i t' o m : Nat), (fs[i]?).map (fun f => (f.type, f.offset)) = some (t', o) → P.cellsOf t' = m → ∃ n y, DataW.trod enc P w 0 spare held n t' ((cs.drop o).take m) = some y := by
  obtain ⟨xs, n, _, _, hl, hlen, hf⟩ := DataW.trod_struct ht h
  refine ⟨hl.trans hk, fun i t' o m hi hm => ?_⟩
  obtain ⟨f, hi2, e⟩ := Option.map_eq_some_iff.1 hi
  cases e
  subst hm
  have h1 := hf i f hi2
  have : i < xs.length := by have := (Array.getElem?_eq_some_iff.1 hi2).1; omega
  exact ⟨n, xs[i], by rw [h1]; simp [this]⟩
theorem RL.app {c : Ctx} {w : World} : ∀ {xs ys : List AV} {vs us : List Value}, RL c w xs vs → RL c w ys us → RL c w (xs ++ ys) (vs ++ us)
  | [], ys, [], us, _, h => h
  | x :: xs, ys, v :: vs, us, h, h' => ⟨h.1, RL.app h.2 h'⟩
end
end Go.Proofs.YthdejoipdgahiaaGreatDoor
namespace Go.Proofs.YthdejoipdgahiaaGreatDoor
open Go.RowKit
set_option linter.unusedSimpArgs false
set_option linter.unusedVariables false
theorem cellsInt64 : Tryz.prog.cellsOf 2 = 1 := by kernel_rfl
theorem opInt64 : OpensA Tryz.prog 2 (fun n : Int => [.lit (.int .i64 n)]) (fun x : Int => inI x) := opensA_int Tryz.underlying2
theorem cellsString : Tryz.prog.cellsOf 9 = 1 := by kernel_rfl
theorem opString : OpensA Tryz.prog 9 (fun s : ByteArray => [.lit (.string s)]) (fun x : ByteArray => x.size ≤ 9223372036854775807) := opensA_str Tryz.underlying9
theorem cellsStored : Tryz.prog.cellsOf 153 = 3 := by kernel_rfl
theorem opStored : OpensA Tryz.prog 153 DStored.enc (fun x : DStored => x.it) := fun H enc w spare held fuel cs x h => by
  obtain ⟨hl, hf⟩ := opensA_fields Tryz.underlying153 cellsStored h
  obtain ⟨n0, y0, h0⟩ := hf 0 _ _ _ rfl cellsString
  obtain ⟨n1, y1, h1⟩ := hf 1 _ _ _ rfl cellsString
  obtain ⟨n2, y2, h2⟩ := hf 2 _ _ _ rfl cellsInt64
  obtain ⟨x0, c0, o0⟩ := opString _ _ _ _ _ _ _ _ h0
  obtain ⟨x1, c1, o1⟩ := opString _ _ _ _ _ _ _ _ h1
  obtain ⟨x2, c2, o2⟩ := opInt64 _ _ _ _ _ _ _ _ h2
  match cs, hl with
  | [a0, a1, a2], _ =>
    exact ⟨⟨x0, x1, x2⟩, ⟨c0.1, c1.1, c2.1, trivial⟩, o0, o1, o2⟩
theorem cellsStoredS : Tryz.prog.cellsOf 64 = 1 := by kernel_rfl
theorem opStoredS : OpensA Tryz.prog 64 (fun xs : List DStored => [.row true 3 (xs.map DStored.enc)]) (fun x : List DStored => x.length ≤ 9223372036854775807 ∧ ∀ y ∈ x, y.it) := opensA_slice Tryz.underlying64 cellsStored (by decide) (fun _ => rfl) (fun _ => rfl) opStored
theorem cellsDrive : Tryz.prog.cellsOf 66 = 2 := by kernel_rfl
theorem opDrive : OpensA Tryz.prog 66 DDrive.enc (fun x : DDrive => x.it) := fun H enc w spare held fuel cs x h => by
  obtain ⟨hl, hf⟩ := opensA_fields Tryz.underlying66 cellsDrive h
  obtain ⟨n0, y0, h0⟩ := hf 0 _ _ _ rfl cellsStoredS
  obtain ⟨n1, y1, h1⟩ := hf 1 _ _ _ rfl cellsInt64
  obtain ⟨x0, c0, o0⟩ := opStoredS _ _ _ _ _ _ _ _ h0
  obtain ⟨x1, c1, o1⟩ := opInt64 _ _ _ _ _ _ _ _ h1
  match cs, hl with
  | [a0, a1], _ =>
    exact ⟨⟨x0, x1⟩, ⟨c0.1, c1.1, trivial⟩, o0, o1⟩
theorem cellsDriveS : Tryz.prog.cellsOf 22 = 1 := by kernel_rfl
theorem opDriveS : OpensA Tryz.prog 22 (fun xs : List DDrive => [.row true 2 (xs.map DDrive.enc)]) (fun x : List DDrive => x.length ≤ 9223372036854775807 ∧ ∀ y ∈ x, y.it) := opensA_slice Tryz.underlying22 cellsDrive (by decide) (fun _ => rfl) (fun _ => rfl) opDrive
theorem cellsArray : Tryz.prog.cellsOf 24 = 3 := by kernel_rfl
theorem opArray : OpensA Tryz.prog 24 DArray.enc (fun x : DArray => x.it) := fun H enc w spare held fuel cs x h => by
  obtain ⟨hl, hf⟩ := opensA_fields Tryz.underlying24 cellsArray h
  obtain ⟨n0, y0, h0⟩ := hf 0 _ _ _ rfl cellsInt64
  obtain ⟨n1, y1, h1⟩ := hf 1 _ _ _ rfl cellsInt64
  obtain ⟨n2, y2, h2⟩ := hf 2 _ _ _ rfl cellsDriveS
  obtain ⟨x0, c0, o0⟩ := opInt64 _ _ _ _ _ _ _ _ h0
  obtain ⟨x1, c1, o1⟩ := opInt64 _ _ _ _ _ _ _ _ h1
  obtain ⟨x2, c2, o2⟩ := opDriveS _ _ _ _ _ _ _ _ h2
  match cs, hl with
  | [a0, a1, a2], _ =>
    exact ⟨⟨x0, x1, x2⟩, ⟨c0.1, c1.1, c2.1, trivial⟩, o0, o1, o2⟩
end Go.Proofs.YthdejoipdgahiaaGreatDoor
namespace Go.Proofs.YthdejoipdgahiaaGreatDoor.fnExactSurvives
open Go.ChangeShapes Go.WideShapes Go.ChangeAt Go.RowKit
open Go.ChangeMaps (open_string shut_string)
set_option linter.unusedVariables false
theorem own : ownKnob Tryz.prog.godebug = none := by kernel_rfl
theorem laidOut : laidOutB Tryz.prog = true := by kernel_rfl
theorem g0 : Tryz.prog.globalNamed "loop.example/g00259/impl.firstState" = some 0 := by kernel_rfl
theorem g1 : Tryz.prog.globalNamed "loop.example/g00259/impl.roots" = some 1 := by kernel_rfl
theorem g0t : (Tryz.prog.globals[0]?).map (·.type) = some 149 := by kernel_rfl
theorem g1t : (Tryz.prog.globals[1]?).map (·.type) = some 190 := by kernel_rfl
theorem c8 : Tryz.prog.cellsOf 149 = 8 := by kernel_rfl
theorem c64 : Tryz.prog.cellsOf 190 = 64 := by kernel_rfl
theorem c1 : Tryz.prog.cellsOf 148 = 1 := by kernel_rfl
def numsOf (l : List Value) : List Int := l.map fun v => match v with | .int _ n => n | _ => 0
theorem laidIs : Rows.fnExactSurvivesRow.laid = [("loop.example/g00259/impl.firstState", Lib.tabData .u32 (numsOf gv0)), ("loop.example/g00259/impl.roots", Lib.tabData .u32 (numsOf gv1))] := by kernel_rfl
theorem gv0Is : gv0 = (numsOf gv0).map fun z => Value.int .u32 z := by kernel_rfl
theorem gv1Is : gv1 = (numsOf gv1).map fun z => Value.int .u32 z := by kernel_rfl
theorem tables {W : World} (h : laidMetH Tryz.prog Rows.fnExactSurvivesRow.laid W) : W.var? Tryz.prog "loop.example/g00259/impl.firstState" = some gv0.toArray ∧ W.var? Tryz.prog "loop.example/g00259/impl.roots" = some gv1.toArray := by
  rw [laidIs] at h
  have h' : laidMet Tryz.prog [("loop.example/g00259/impl.firstState", Lib.tabData .u32 (numsOf gv0)), ("loop.example/g00259/impl.roots", Lib.tabData .u32 (numsOf gv1))] W := h
  have e0 := Lib.tabIs_of_head (rest := [("loop.example/g00259/impl.roots", Lib.tabData .u32 (numsOf gv1))]) g0 g0t Tryz.underlying149 Tryz.underlying148 c1 c8 h'
  obtain ⟨ps, ⟨_, _, _, _, _, _, _, _, _, _, ⟨g', t', cs, fuel, p, q, hg', ht', hvar, hd, _, _⟩, _⟩, _⟩ := h'
  obtain rfl := Option.some.inj (g1.symm.trans hg')
  obtain rfl := Option.some.inj (g1t.symm.trans ht')
  refine ⟨?_, ?_⟩
  · have : W.var? Tryz.prog "loop.example/g00259/impl.firstState" = some ((numsOf gv0).map fun z => Value.int .u32 z).toArray := e0
    rw [this, ← gv0Is]
  · have hc := Lib.cells_of_tab Tryz.underlying190 Tryz.underlying148 c1 c64 hd
    rw [hvar, gv1Is, ← hc]
theorem glw {W : World} (h : laidMetH Tryz.prog Rows.fnExactSurvivesRow.laid W) : GlW W (fun k => k < W.heap.size) := by
  obtain ⟨e0, e1⟩ := tables h
  have key : ∀ (n : String) (g : Nat) (xs : List Value), Tryz.prog.globalNamed n = some g → W.var? Tryz.prog n = some xs.toArray → (∀ v ∈ xs, v.oneCell' = true) → g < W.heap.size ∧ g < W.heap.size ∧ ∀ (j : Nat) (v : Value), xs[j]? = some v → W.cell? ⟨g, j, none⟩ = some v ∧ v.oneCell' = true := by
    intro n g xs hg hv h1
    have hlt : g < W.heap.size := by
      simp only [World.var?, hg, Option.bind_some] at hv
      cases hh : W.heap[g]? with
      | none => rw [hh] at hv; cases hv
      | some o => exact (Array.getElem?_eq_some_iff.1 hh).1
    refine ⟨hlt, hlt, fun j v hj => ⟨?_, h1 v (List.mem_of_getElem? hj)⟩⟩
    have := World.var?_cell hg hv j
    rw [this]; simpa using hj
  intro g xs hg
  match g, hg with
  | 0, hg => cases hg; exact key _ 0 gv0 g0 e0 (fun v hv => by rw [gv0Is] at hv; obtain ⟨z, _, rfl⟩ := List.mem_map.1 hv; rfl)
  | 1, hg => cases hg; exact key _ 1 gv1 g1 e1 (fun v hv => by rw [gv1Is] at hv; obtain ⟨z, _, rfl⟩ := List.mem_map.1 hv; rfl)
  | g + 2, hg => cases hg
theorem vRowed : varsRowed Tryz.prog Rows.fnExactSurvivesSpec.vars = true := by kernel_rfl
def wArgs : Array Value := #[.agg #[.int .i64 0, .int .i64 0, .slice none 0 0]]
set_option maxRecDepth 100000 in
set_option maxHeartbeats 4000000 in
theorem contract (H : Type) (enc : TypeId × Value → H) (W : World) (base : Nat) (args : Array Value) (ds gs : List (DataW H)) (before : List MemPlace)
    (hval0 : ∀ (j : Nat) t v, Tryz.f4.params[j]? = some t → args[j]? = some v → Value.okWide Tryz.prog W .any base t v)
    (hW : DataW.Whole enc Tryz.prog Tryz.f4.params.toList Rows.fnExactSurvivesSpec.vars false W args.toList ds gs before) (hL : laidMetH Tryz.prog Rows.fnExactSurvivesRow.laid W) :
    Calls Tryz.prog 4 args W fun e W' => ∃ v, e = .returned v ∧ Rows.fnExactSurvivesSpec.post enc Tryz.prog Tryz.f4 false true false false W args v W' := by
  have hval : ∀ (j : Nat) t v, Tryz.f4.params[j]? = some t → args[j]? = some v → Value.okWide Tryz.prog W .any base t v := hval0
  have hW' := hW
  obtain ⟨p, q, hA0, hV, rfl, hfz, hnd⟩ := hW
  have hA : DataW.TrodAll enc Tryz.prog W 0 (fun _ => true) true Tryz.f4.params.toList args.toList ds p := hA0
  rw [Tryz.params4] at hA hval
  obtain ⟨v0, vs0, d0, ds0, p0, q0, hargs, rfl, rfl, h0, r0⟩ := trodAll_cons hA
  obtain ⟨rfl, rfl, rfl⟩ := trodAll_nil r0
  obtain rfl : args = #[v0] := by cases args; simp_all
  obtain ⟨g0', t0', cs0', f0', d0', p0', g1', t1', cs1', f1', d1', p1', rfl, _, _, _, _, _, _, _, _, hq⟩ := trodVars_two hV
  obtain ⟨cs0, rfl, hc0⟩ := okWide_struct Tryz.underlying24 (hval 0 24 v0 rfl rfl)
  have k0 := h0
  have lt0 : ∀ x ∈ p0, x.block < W.heap.size := by obtain ⟨m, hm⟩ := k0; exact DataW.trod_lt m _ _ _ hm
  obtain ⟨x0, C0, ok0⟩ : ∃ y : DArray, RL (cAll W) W (DArray.enc y) cs0.toList ∧ y.it := by
    obtain ⟨fuel, hf⟩ := h0
    exact opArray _ _ _ _ _ _ _ _ hf
  clear hA0 hval0
  refine ((fnExactSurvives_c x0 ok0).2.2 W (fun k => k < W.heap.size) #[.agg cs0] (fun _ h => h) (glw hL) ⟨C0, trivial⟩).mono fun e W' ⟨v, F, he, hr, _, bel⟩ => ?_
  replace bel := bel.below
  obtain ⟨hr, _⟩ := hr
  obtain rfl : v = .bool true := by
    cases hr with
    | plain _ h _ => cases h; rfl
  subst he
  exact ⟨_, rfl, _, _, _, [], _, q, hW', trodAll_mk1 (shut_bool Tryz.underlying4 _), (trodAll_cons_mk (Below.trod laidOut (by kernel_rfl) (of_decide_eq_true (by kernel_rfl)) k0 bel lt0) trodAll_mk0), Below.trodVars laidOut bel vRowed hV, bel.frame _, fun h => by cases h⟩
def layV (xs : List Value) : Obj → Obj
  | .cells _ t frozen => .cells xs.toArray t frozen
  | o => o
noncomputable def laidWorld (os : Os) : World :=
  { World.holding Tryz.prog os ⟨#[], #[], []⟩ with heap := (Array.modify (Array.modify (World.holding Tryz.prog os ⟨#[], #[], []⟩).heap 0 (layV gv0)) 1 (layV gv1)) }
theorem laid_met (os : Os) : laidMet Tryz.prog Rows.fnExactSurvivesRow.laid ((laidWorld os).forCall (fun _ _ => 0) ⟨#[], wArgs, []⟩).memory :=
  laidMet_of_run' 8 (by kernel_rfl) (by kernel_rfl)
theorem reads (os : Os) {H : Type} (enc : TypeId × Value → H) : ∃ x, DataW.whole enc Tryz.prog ((laidWorld os).forCall (fun _ _ => 0) ⟨#[], wArgs, []⟩).memory Tryz.f4.params.toList Rows.fnExactSurvivesSpec.vars false wArgs.toList 8 = some x :=
  Option.isSome_iff_exists.1 (by kernel_rfl)
set_option maxRecDepth 100000 in
theorem lifted (os : Os) (started : os.Started) (H : Type) (enc : TypeId × Value → H) (F : Stop.Interp) :
    ReturnsInHanded {} Tryz.checked os 4 .any ((OpenSpec.ofChange Rows.fnExactSurvivesSpec).preRow enc Tryz.prog Tryz.f4 Rows.fnExactSurvivesRow.domain false Rows.fnExactSurvivesRow.laid) (((OpenSpec.ofChange Rows.fnExactSurvivesSpec).at F).post enc Tryz.prog Tryz.f4 false true false false) := by
  obtain ⟨x, hx⟩ := reads os enc
  refine returnsInHanded_of_row (C := Tryz.checked) (s := OpenSpec.ofChange Rows.fnExactSurvivesSpec) own started (by kernel_rfl) Tryz.func4
    (witness_row_at (enc := enc) (C := Tryz.checked) false (laidWorld os) wArgs rfl (by kernel_rfl) (by kernel_rfl) (by kernel_rfl)
      (OpenSpec.preRow_of_cond 8 hx rfl (fun k hk => by cases hk) (by kernel_rfl) (laid_met os))) ?_
  intro W base args ds gs before hval hW _ _ _ hL _ _
  exact contract H enc W base args ds gs before hval hW hL
set_option maxRecDepth 100000 in
theorem said : Rows.FnExactSurvivesSaid :=
  OpenClaim.holds_of_cond 4 Tryz.f4 rfl rfl rfl rfl rfl rfl rfl ⟨rfl, rfl, rfl, rfl, rfl⟩ rfl rfl rfl rfl rfl (by kernel_rfl) Tryz.func4 closed
    (of_decide_eq_true (by kernel_rfl)) (by unfold Func.isWrapper; first | (rw [if_pos (by decide +kernel)]; kernel_rfl) | (rw [if_neg (by decide +kernel)]; exact ⟨rfl, rfl⟩))
    (fun os started H enc _ F => by rw [OpenClaim.pre_eq_preRow]; exact lifted os started H enc F)
set_option maxRecDepth 100000 in
theorem plain (f : FuncId) (fn : Func) (hf : Tryz.pinned.checked.prog.funcNamed "loop.example/g00259/laws.FnExactSurvives" = some f) (hfn : Tryz.pinned.checked.prog.funcs[f]? = some fn) :
    false = Tryz.pinned.checked.prog.looks [] ∧ ∀ (j : Nat) t, fn.params[j]? = some t → Tryz.pinned.checked.prog.wantsStandIn t = false := by
  obtain rfl : f = 4 := Option.some.inj ((show Tryz.prog.funcNamed "loop.example/g00259/laws.FnExactSurvives" = some 4 by kernel_rfl).symm.trans hf) |>.symm
  obtain rfl : fn = Tryz.f4 := (Option.some.inj (Tryz.func4.symm.trans hfn)).symm
  refine ⟨by kernel_rfl, fun j t ht => ?_⟩
  rw [Tryz.params4] at ht
  have hm := Array.mem_of_getElem? ht
  simp only [List.mem_toArray, List.mem_cons, List.not_mem_nil, or_false] at hm
  have w0 : Tryz.prog.wantsStandIn 24 = false := by kernel_rfl
  rcases hm with rfl <;> assumption
set_option maxRecDepth 100000 in
theorem card : Rows.FnExactSurvivesCardSaid :=
  Claim7.holds_tied_plain_at .later [] _ _ _ _ said (fun _ h => by cases h) (by kernel_rfl) (fun _ h => by cases h) fnExactSurvives_row_tie rfl ⟨rfl, rfl⟩ (by kernel_rfl) rfl plain (by kernel_rfl)
end Go.Proofs.YthdejoipdgahiaaGreatDoor.fnExactSurvives
namespace Go.Proofs.YthdejoipdgahiaaGreatDoor
theorem fnExactSurvives_holds : Rows.FnExactSurvivesCardSaid := fnExactSurvives.card
end Go.Proofs.YthdejoipdgahiaaGreatDoor
