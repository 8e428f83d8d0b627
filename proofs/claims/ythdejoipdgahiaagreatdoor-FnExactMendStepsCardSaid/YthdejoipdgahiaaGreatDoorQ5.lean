/- The law FnExactMendSteps: whatever the input, it returns true, and the input reads behind the call as it read before. No condition. -/
import Derived.Test.YthdejoipdgahiaaGreatDoorQ4
import Derived.Test.YthdejoipdgahiaaGreatDoorQ3
import Derived.Test.YthdejoipdgahiaaGreatDoorQ2
import Derived.Test.YthdejoipdgahiaaGreatDoorRows
import Derived.WalkKit
import Derived.ProofKit
import Derived.SizedLaws
import Derived.Deep.Slices
import Derived.Test.YthdejoipdgahiaaGreatDoorChecked
import Derived.KernelRfl
import Derived.Test.YthdejoipdgahiaaGreatDoorCards
import Derived.Test.YthdejoipdgahiaaGreatDoorTie
import Derived.OpenShut
import Derived.ShutString
import Derived.ChangeOld
import Derived.Below
import Derived.Deep.DeepHandedRow
import Derived.Lib.LaidTab
import Derived.OpenVars
namespace Go.Proofs.YthdejoipdgahiaaGreatDoor
open Go.RowKit
set_option linter.unusedSimpArgs false
set_option linter.unusedVariables false
set_option maxRecDepth 100000
set_option maxHeartbeats 4000000
def Fr.enc (f : Fr) : List AV := [.lit (.int .i64 f.k), .lit (.int .i64 f.m), .lit (.int .i64 f.i), .lit (.int .i64 f.n), .lit (.string f.whole), .lit (.string f.text)]
def Rd.cells (t : ByteArray) (r : Rd) : List Value := [.string t, .int .i64 (r.at_ : Int), .bool r.bad]
theorem take_c {t : ByteArray} {r : Rd} {n : Nat} (ha : r.at_ ≤ t.size) (ht : t.size ≤ 1000000) (hn : n ≤ 1000000) :
    PtrF Tryz.prog 97 [] (r.cells t) ((takeR t n r).cells t) [.one (vN n)] (.one (.lit (.string (takeT t n r)))) := by
  obtain ⟨a, bad⟩ := r
  simp only at ha
  cases bad with
  | true =>
    rw [takeR, takeT, if_pos (.inl rfl), if_pos (.inl rfl)]
    dsimp only [Rd.cells]
    refine ptrf_of_vc (E := tb) tb_ok mix (fn := Tryz.f97) Tryz.func97 rfl (by kernel_rfl) (by kernel_rfl) (by simp [Tryz.f97]) (by rfl) rfl rfl (by first | (show 1 ≤ 7; decide) | (show 0 ≤ 7; decide)) rfl fun b => ?_
    (conv => whnf)
    exact ⟨⟨close_str rfl, trivial⟩, rfl, rfl⟩
  | false =>
    by_cases h : t.size < a + n
    · rw [takeR_short h, takeT, if_pos (.inr h)]
      dsimp only [Rd.cells]
      refine ptrf_of_vc (E := tb) tb_ok mix (fn := Tryz.f97) Tryz.func97 rfl (by kernel_rfl) (by kernel_rfl) (by simp [Tryz.f97]) (by rfl) rfl rfl (by first | (show 1 ≤ 7; decide) | (show 0 ≤ 7; decide)) rfl fun b => ?_
      (conv => whnf)
      refine ⟨_, _, long_c t, lendA, ?_⟩; (conv => whnf)
      refine ⟨(t.size : Int) - (a : Int), by rw [← wrap64_id] <;> omega, ?_⟩; (conv => whnf)
      (split <;> rename_i hb <;> (try simp only [decide_eq_true_eq, decide_eq_false_iff_not, Bool.not_eq_true', Bool.not_eq_false', Bool.not_eq_true, Bool.not_eq_false, List.length_map] at hb) <;> conv => whnf)
      · exact ⟨⟨close_str rfl, trivial⟩, rfl, rfl⟩
      · exfalso; omega
    · rw [takeR_good (by omega), takeT_good (by omega)]
      dsimp only [Rd.cells]
      refine ptrf_of_vc (E := tb) tb_ok mix (fn := Tryz.f97) Tryz.func97 rfl (by kernel_rfl) (by kernel_rfl) (by simp [Tryz.f97]) (by rfl) rfl rfl (by first | (show 1 ≤ 7; decide) | (show 0 ≤ 7; decide)) rfl fun b => ?_
      (conv => whnf)
      refine ⟨_, _, long_c t, lendA, ?_⟩; (conv => whnf)
      refine ⟨(t.size : Int) - (a : Int), by rw [← wrap64_id] <;> omega, ?_⟩; (conv => whnf)
      (split <;> rename_i hb <;> (try simp only [decide_eq_true_eq, decide_eq_false_iff_not, Bool.not_eq_true', Bool.not_eq_false', Bool.not_eq_true, Bool.not_eq_false, List.length_map] at hb) <;> conv => whnf)
      · exfalso; omega
      · refine ⟨((a + n : Nat) : Int), by rw [← wrap64_id] <;> omega, ?_⟩; (conv => whnf)
        refine ⟨(a : Int), by rw [← wrap64_id] <;> omega, ?_⟩; (conv => whnf)
        refine ⟨by simp only [Option.getD]; omega, by simp only [Option.getD]; omega, by simp only [Option.getD]; omega, ?_⟩; (conv => whnf)
        refine ⟨_, rfl, ?_⟩; (conv => whnf)
        exact ⟨⟨close_str rfl, trivial⟩, rfl, rfl⟩
theorem num_c {t : ByteArray} {r : Rd} (ha : r.at_ ≤ t.size) (ht : t.size ≤ 1000000) :
    PtrF Tryz.prog 98 [] (r.cells t) ((numR t r).cells t) [] (.one (.lit (.int .i64 (numV t r)))) := by
  obtain ⟨a, bad⟩ := r
  simp only at ha
  have hg := getImpl_c (t := t) (at_ := a) ht (by omega)
  cases bad with
  | true =>
    rw [numR, numV, if_pos (.inl rfl), if_pos (.inl rfl)]
    dsimp only [Rd.cells]
    refine ptrf_of_vc (E := tb) tb_ok mix (fn := Tryz.f98) Tryz.func98 rfl (by kernel_rfl) (by kernel_rfl) (by simp [Tryz.f98]) (by rfl) rfl rfl (by first | (show 1 ≤ 7; decide) | (show 0 ≤ 7; decide)) rfl fun b => ?_
    (conv => whnf)
    refine ⟨_, _, hg, lendA, ?_⟩; (conv => whnf)
    exact ⟨⟨close_int rfl, trivial⟩, rfl, rfl⟩
  | false =>
    by_cases h : (getN t a).2.2 = 0
    · rw [numR, numV, if_neg (by simpa using h), if_neg (by simpa using h)]
      obtain ⟨⟨v, e, c⟩, hv⟩ : ∃ x, getN t a = x := ⟨_, rfl⟩
      simp only [hv] at h hg ⊢
      subst h
      dsimp only [Rd.cells]
      refine ptrf_of_vc (E := tb) tb_ok mix (fn := Tryz.f98) Tryz.func98 rfl (by kernel_rfl) (by kernel_rfl) (by simp [Tryz.f98]) (by rfl) rfl rfl (by first | (show 1 ≤ 7; decide) | (show 0 ≤ 7; decide)) rfl fun b => ?_
      (conv => whnf)
      refine ⟨_, _, hg, lendA, ?_⟩; (conv => whnf)
      exact ⟨⟨close_int rfl, trivial⟩, rfl, rfl⟩
    · rw [numR, numV, if_pos (.inr h), if_pos (.inr h)]
      obtain ⟨⟨v, e, c⟩, hv⟩ : ∃ x, getN t a = x := ⟨_, rfl⟩
      simp only [hv] at h hg ⊢
      dsimp only [Rd.cells]
      refine ptrf_of_vc (E := tb) tb_ok mix (fn := Tryz.f98) Tryz.func98 rfl (by kernel_rfl) (by kernel_rfl) (by simp [Tryz.f98]) (by rfl) rfl rfl (by first | (show 1 ≤ 7; decide) | (show 0 ≤ 7; decide)) rfl fun b => ?_
      (conv => whnf)
      refine ⟨_, _, hg, lendA, ?_⟩; (conv => whnf)
      (split <;> rename_i hb <;> (try simp only [decide_eq_true_eq, decide_eq_false_iff_not, Bool.not_eq_true', Bool.not_eq_false', Bool.not_eq_true, Bool.not_eq_false, List.length_map] at hb) <;> conv => whnf)
      · exact ⟨⟨close_int rfl, trivial⟩, rfl, rfl⟩
      · exfalso; omega
theorem frRightI_c (f : Fr) : Fun1 Tryz.prog 99 [.agg f.enc] (.one (.lit (.bool f.right))) := by
  obtain ⟨k, m, i, n, wh, tx⟩ := f
  obtain ⟨R, hR⟩ : ∃ R, Fr.right ⟨k, m, i, n, wh, tx⟩ = R := ⟨_, rfl⟩
  rw [hR]
  dsimp only [Fr.enc]
  unfold Fr.right at hR
  simp only at hR
  have hc := codeImpl_c k m
  by_cases h1 : codeOk k m = true
  · have hk : 1 ≤ k ∧ k ≤ 8 ∧ 0 ≤ m ∧ m ≤ 6 := by
      unfold codeOk at h1
      simp only [Bool.and_eq_true, decide_eq_true_eq] at h1
      exact ⟨h1.1.1.1, h1.1.1.2, h1.1.2, h1.2⟩
    rw [h1] at hc hR
    have hi := within_c i 0 (k + m - 1)
    by_cases h2 : (decide (0 ≤ i) && decide (i ≤ k + m - 1)) = true
    · rw [h2] at hi hR
      have hn := within_c n 0 12000
      by_cases h3 : (decide (0 ≤ n) && decide (n ≤ 12000)) = true
      · rw [h3] at hn hR
        by_cases h4 : wh.size = 32
        · rw [decide_eq_true h4] at hR
          obtain ⟨k', rfl⟩ : ∃ k' : Nat, k = k' := ⟨k.toNat, by omega⟩
          simp only [Bool.and_eq_true, decide_eq_true_eq] at h3
          obtain ⟨n', rfl⟩ : ∃ n' : Nat, n = n' := ⟨n.toNat, by omega⟩
          rw [Int.toNat_natCast, Int.toNat_natCast] at hR
          refine fun1_of_vc tb_ok mix (fn := Tryz.f99) Tryz.func99 rfl (by kernel_rfl) (by kernel_rfl) (by simp [Tryz.f99]) (by rfl) ?_
          (conv => whnf)
          refine ⟨_, _, hc, lendA, ?_⟩; (conv => whnf)
          refine ⟨k' + m, by rw [← wrap64_id] <;> omega, ?_⟩; (conv => whnf)
          refine ⟨k' + m - 1, by rw [← wrap64_id] <;> omega, ?_⟩; (conv => whnf)
          refine ⟨_, _, hi, lendA, ?_⟩; (conv => whnf)
          refine ⟨_, _, hn, lendA, ?_⟩; (conv => whnf)
          (split <;> rename_i hb <;> (try simp only [decide_eq_true_eq, decide_eq_false_iff_not, Bool.not_eq_true', Bool.not_eq_false', Bool.not_eq_true, Bool.not_eq_false, List.length_map] at hb) <;> conv => whnf)
          · refine ⟨_, _, long_c tx, lendA, ?_⟩; (conv => whnf)
            refine ⟨_, _, shardImpl_c (k := k') (n := n') (by omega) (by omega), lendA, ?_⟩; (conv => whnf)
            exact ⟨close_bool (by rw [← hR]; simp; omega), trivial⟩
          · exfalso; apply hb; simp [h4]
        · refine fun1_of_vc tb_ok mix (fn := Tryz.f99) Tryz.func99 rfl (by kernel_rfl) (by kernel_rfl) (by simp [Tryz.f99]) (by rfl) ?_
          (conv => whnf)
          refine ⟨_, _, hc, lendA, ?_⟩; (conv => whnf)
          refine ⟨k + m, by rw [← wrap64_id] <;> omega, ?_⟩; (conv => whnf)
          refine ⟨k + m - 1, by rw [← wrap64_id] <;> omega, ?_⟩; (conv => whnf)
          refine ⟨_, _, hi, lendA, ?_⟩; (conv => whnf)
          refine ⟨_, _, hn, lendA, ?_⟩; (conv => whnf)
          (split <;> rename_i hb <;> (try simp only [decide_eq_true_eq, decide_eq_false_iff_not, Bool.not_eq_true', Bool.not_eq_false', Bool.not_eq_true, Bool.not_eq_false, List.length_map] at hb) <;> conv => whnf)
          · exfalso; omega
          · exact ⟨close_bool (by rw [← hR]; simp [h4]), trivial⟩
      · rw [Bool.eq_false_iff.2 h3] at hn hR
        refine fun1_of_vc tb_ok mix (fn := Tryz.f99) Tryz.func99 rfl (by kernel_rfl) (by kernel_rfl) (by simp [Tryz.f99]) (by rfl) ?_
        (conv => whnf)
        refine ⟨_, _, hc, lendA, ?_⟩; (conv => whnf)
        refine ⟨k + m, by rw [← wrap64_id] <;> omega, ?_⟩; (conv => whnf)
        refine ⟨k + m - 1, by rw [← wrap64_id] <;> omega, ?_⟩; (conv => whnf)
        refine ⟨_, _, hi, lendA, ?_⟩; (conv => whnf)
        refine ⟨_, _, hn, lendA, ?_⟩; (conv => whnf)
        exact ⟨close_bool (by rw [← hR]; simp), trivial⟩
    · rw [Bool.eq_false_iff.2 h2] at hi hR
      refine fun1_of_vc tb_ok mix (fn := Tryz.f99) Tryz.func99 rfl (by kernel_rfl) (by kernel_rfl) (by simp [Tryz.f99]) (by rfl) ?_
      (conv => whnf)
      refine ⟨_, _, hc, lendA, ?_⟩; (conv => whnf)
      refine ⟨k + m, by rw [← wrap64_id] <;> omega, ?_⟩; (conv => whnf)
      refine ⟨k + m - 1, by rw [← wrap64_id] <;> omega, ?_⟩; (conv => whnf)
      refine ⟨_, _, hi, lendA, ?_⟩; (conv => whnf)
      exact ⟨close_bool (by rw [← hR]; simp), trivial⟩
  · rw [Bool.eq_false_iff.2 h1] at hc hR
    refine fun1_of_vc tb_ok mix (fn := Tryz.f99) Tryz.func99 rfl (by kernel_rfl) (by kernel_rfl) (by simp [Tryz.f99]) (by rfl) ?_
    (conv => whnf)
    refine ⟨_, _, hc, lendA, ?_⟩; (conv => whnf)
    exact ⟨close_bool (by rw [← hR]; simp), trivial⟩
end Go.Proofs.YthdejoipdgahiaaGreatDoor
namespace Go.Proofs.YthdejoipdgahiaaGreatDoor
open Go.RowKit
set_option linter.unusedSimpArgs false
set_option linter.unusedVariables false
set_option maxRecDepth 100000
set_option maxHeartbeats 4000000
theorem read_walk {t S wh x tx : ByteArray} {k m i n : Int} {r0 r1 r2 r3 r4 r5 : Rd} {a6 a7 : Nat} {b6 b7 : Bool} (ht : t.size ≤ 100000) (ha : a6 ≤ t.size)
    (c0 : PtrF Tryz.prog 97 [] (Rd.cells t ⟨0, false⟩) (r0.cells t) [.one (vN 1)] (.one (.lit (.string S))))
    (c1 : PtrF Tryz.prog 98 [] (r0.cells t) (r1.cells t) [] (.one (.lit (.int .i64 k))))
    (c2 : PtrF Tryz.prog 98 [] (r1.cells t) (r2.cells t) [] (.one (.lit (.int .i64 m))))
    (c3 : PtrF Tryz.prog 98 [] (r2.cells t) (r3.cells t) [] (.one (.lit (.int .i64 i))))
    (c4 : PtrF Tryz.prog 98 [] (r3.cells t) (r4.cells t) [] (.one (.lit (.int .i64 n))))
    (c5 : PtrF Tryz.prog 97 [] (r4.cells t) (r5.cells t) [.one (vN 32)] (.one (.lit (.string wh))))
    (c6 : PtrF Tryz.prog 97 [] (r5.cells t) (Rd.cells t ⟨a6, b6⟩) [.one (vN 32)] (.one (.lit (.string x))))
    (c7 : PtrF Tryz.prog 97 [] (Rd.cells t ⟨a6, b6⟩) (Rd.cells t ⟨a7, b7⟩) [.one (vN (t.size - a6))] (.one (.lit (.string tx)))) :
    ∀ ok : Bool, ok = (!b7 && decide (S = ⟨#[70]⟩) && (Fr.mk k m i n wh tx).right && decide ((Fr.mk k m i n wh tx).bytes = t)) →
    Fun1 Tryz.prog 64 [.one (.lit (.string t))] (.tup [(true, (if ok = true then (Fr.mk k m i n wh tx) else Fr.zero).enc), (false, [.lit (.bool ok)])]) := by
  intro ok hok
  have hr := frRightI_c ⟨k, m, i, n, wh, tx⟩
  dsimp only [Rd.cells] at c0 c1 c2 c3 c4 c5 c6 c7
  dsimp only [Fr.enc] at hr
  cases b7 with
  | true =>
    have hf : ok = false := by rw [hok]; rfl
    rw [hf, if_neg (by decide)]
    refine fun1_of_vc tb_ok mix (fn := Tryz.f64) Tryz.func64 rfl (by kernel_rfl) (by kernel_rfl) (by simp [Tryz.f64]) (by rfl) ?_
    (conv => whnf)
    refine ⟨_, _, ptr_ok 0 c0 rfl rfl lendA (fun p hp => by cases hp) (fun x hx => by cases hx), ?_⟩; (conv => whnf)
    refine ⟨_, _, ptr_ok 0 c1 rfl rfl lendA (fun p hp => by cases hp) (fun x hx => by cases hx), ?_⟩; (conv => whnf)
    refine ⟨_, _, ptr_ok 0 c2 rfl rfl lendA (fun p hp => by cases hp) (fun x hx => by cases hx), ?_⟩; (conv => whnf)
    refine ⟨_, _, ptr_ok 0 c3 rfl rfl lendA (fun p hp => by cases hp) (fun x hx => by cases hx), ?_⟩; (conv => whnf)
    refine ⟨_, _, ptr_ok 0 c4 rfl rfl lendA (fun p hp => by cases hp) (fun x hx => by cases hx), ?_⟩; (conv => whnf)
    refine ⟨_, _, ptr_ok 0 c5 rfl rfl lendA (fun p hp => by cases hp) (fun x hx => by cases hx), ?_⟩; (conv => whnf)
    refine ⟨_, _, ptr_ok 0 c6 rfl rfl lendA (fun p hp => by cases hp) (fun x hx => by cases hx), ?_⟩; (conv => whnf)
    refine ⟨_, _, long_c t, lendA, ?_⟩; (conv => whnf)
    refine ⟨((t.size - a6 : Nat) : Int), by rw [← wrap64_id] <;> omega, ?_⟩; (conv => whnf)
    refine ⟨_, _, ptr_ok 0 c7 rfl rfl lendA (fun p hp => by cases hp) (fun x hx => by cases hx), ?_⟩; (conv => whnf)
    exact ⟨rfl, ⟨close_int rfl, close_int rfl, close_int rfl, close_int rfl, close_str rfl, close_str rfl, trivial⟩, rfl, ⟨close_bool rfl, trivial⟩, trivial⟩
  | false =>
    by_cases hS : S = ⟨#[70]⟩
    · subst hS
      cases hrt : (Fr.mk k m i n wh tx).right with
      | false =>
        have hf : ok = false := by rw [hok, hrt]; simp
        rw [hf, if_neg (by decide)]
        rw [hrt] at hr
        refine fun1_of_vc tb_ok mix (fn := Tryz.f64) Tryz.func64 rfl (by kernel_rfl) (by kernel_rfl) (by simp [Tryz.f64]) (by rfl) ?_
        (conv => whnf)
        refine ⟨_, _, ptr_ok 0 c0 rfl rfl lendA (fun p hp => by cases hp) (fun x hx => by cases hx), ?_⟩; (conv => whnf)
        refine ⟨_, _, ptr_ok 0 c1 rfl rfl lendA (fun p hp => by cases hp) (fun x hx => by cases hx), ?_⟩; (conv => whnf)
        refine ⟨_, _, ptr_ok 0 c2 rfl rfl lendA (fun p hp => by cases hp) (fun x hx => by cases hx), ?_⟩; (conv => whnf)
        refine ⟨_, _, ptr_ok 0 c3 rfl rfl lendA (fun p hp => by cases hp) (fun x hx => by cases hx), ?_⟩; (conv => whnf)
        refine ⟨_, _, ptr_ok 0 c4 rfl rfl lendA (fun p hp => by cases hp) (fun x hx => by cases hx), ?_⟩; (conv => whnf)
        refine ⟨_, _, ptr_ok 0 c5 rfl rfl lendA (fun p hp => by cases hp) (fun x hx => by cases hx), ?_⟩; (conv => whnf)
        refine ⟨_, _, ptr_ok 0 c6 rfl rfl lendA (fun p hp => by cases hp) (fun x hx => by cases hx), ?_⟩; (conv => whnf)
        refine ⟨_, _, long_c t, lendA, ?_⟩; (conv => whnf)
        refine ⟨((t.size - a6 : Nat) : Int), by rw [← wrap64_id] <;> omega, ?_⟩; (conv => whnf)
        refine ⟨_, _, ptr_ok 0 c7 rfl rfl lendA (fun p hp => by cases hp) (fun x hx => by cases hx), ?_⟩; (conv => whnf)
        refine ⟨_, _, hr, lendA, ?_⟩; (conv => whnf)
        exact ⟨rfl, ⟨close_int rfl, close_int rfl, close_int rfl, close_int rfl, close_str rfl, close_str rfl, trivial⟩, rfl, ⟨close_bool rfl, trivial⟩, trivial⟩
      | true =>
        obtain ⟨k', m', i', n', h1, h2, h3, h4, h5, h6, h7, h8, h9, h10, h11⟩ := Fr.right_iff.1 hrt
        simp only at h1 h2 h3 h4 h10 h11
        subst h1 h2 h3 h4
        have hsb := (shN_bounds (size := n') h5).2.2
        have hb := frameImpl_c (k := k') (m := m') (i := i') (n := n') (whole := wh) (text := tx) (by omega) (by omega) (by omega) (by omega) (by omega) (by omega)
        have hbe : (Fr.mk k' m' i' n' wh tx).bytes = frameN k' m' i' n' wh tx := by simp only [Fr.bytes, Int.toNat_natCast]
        rw [hrt] at hr
        rw [hbe, hrt] at hok
        obtain ⟨Z, hZ⟩ : ∃ Z, frameN k' m' i' n' wh tx = Z := ⟨_, rfl⟩
        rw [hZ] at hb hok
        by_cases he : Z = t
        · have hf : ok = true := by rw [hok, he]; simp
          rw [hf, if_pos rfl]
          refine fun1_of_vc tb_ok mix (fn := Tryz.f64) Tryz.func64 rfl (by kernel_rfl) (by kernel_rfl) (by simp [Tryz.f64]) (by rfl) ?_
          (conv => whnf)
          refine ⟨_, _, ptr_ok 0 c0 rfl rfl lendA (fun p hp => by cases hp) (fun x hx => by cases hx), ?_⟩; (conv => whnf)
          refine ⟨_, _, ptr_ok 0 c1 rfl rfl lendA (fun p hp => by cases hp) (fun x hx => by cases hx), ?_⟩; (conv => whnf)
          refine ⟨_, _, ptr_ok 0 c2 rfl rfl lendA (fun p hp => by cases hp) (fun x hx => by cases hx), ?_⟩; (conv => whnf)
          refine ⟨_, _, ptr_ok 0 c3 rfl rfl lendA (fun p hp => by cases hp) (fun x hx => by cases hx), ?_⟩; (conv => whnf)
          refine ⟨_, _, ptr_ok 0 c4 rfl rfl lendA (fun p hp => by cases hp) (fun x hx => by cases hx), ?_⟩; (conv => whnf)
          refine ⟨_, _, ptr_ok 0 c5 rfl rfl lendA (fun p hp => by cases hp) (fun x hx => by cases hx), ?_⟩; (conv => whnf)
          refine ⟨_, _, ptr_ok 0 c6 rfl rfl lendA (fun p hp => by cases hp) (fun x hx => by cases hx), ?_⟩; (conv => whnf)
          refine ⟨_, _, long_c t, lendA, ?_⟩; (conv => whnf)
          refine ⟨((t.size - a6 : Nat) : Int), by rw [← wrap64_id] <;> omega, ?_⟩; (conv => whnf)
          refine ⟨_, _, ptr_ok 0 c7 rfl rfl lendA (fun p hp => by cases hp) (fun x hx => by cases hx), ?_⟩; (conv => whnf)
          refine ⟨_, _, hr, lendA, ?_⟩; (conv => whnf)
          refine ⟨_, _, hb, lendA, ?_⟩; (conv => whnf)
          (split <;> rename_i q2 <;> (try simp only [decide_eq_true_eq, decide_eq_false_iff_not, Bool.not_eq_true', Bool.not_eq_false', Bool.not_eq_true, Bool.not_eq_false, List.length_map] at q2) <;> conv => whnf)
          · exfalso; exact q2 he
          exact ⟨rfl, ⟨close_int rfl, close_int rfl, close_int rfl, close_int rfl, close_str rfl, close_str rfl, trivial⟩, rfl, ⟨close_bool rfl, trivial⟩, trivial⟩
        · have hf : ok = false := by rw [hok]; simp [he]
          rw [hf, if_neg (by decide)]
          refine fun1_of_vc tb_ok mix (fn := Tryz.f64) Tryz.func64 rfl (by kernel_rfl) (by kernel_rfl) (by simp [Tryz.f64]) (by rfl) ?_
          (conv => whnf)
          refine ⟨_, _, ptr_ok 0 c0 rfl rfl lendA (fun p hp => by cases hp) (fun x hx => by cases hx), ?_⟩; (conv => whnf)
          refine ⟨_, _, ptr_ok 0 c1 rfl rfl lendA (fun p hp => by cases hp) (fun x hx => by cases hx), ?_⟩; (conv => whnf)
          refine ⟨_, _, ptr_ok 0 c2 rfl rfl lendA (fun p hp => by cases hp) (fun x hx => by cases hx), ?_⟩; (conv => whnf)
          refine ⟨_, _, ptr_ok 0 c3 rfl rfl lendA (fun p hp => by cases hp) (fun x hx => by cases hx), ?_⟩; (conv => whnf)
          refine ⟨_, _, ptr_ok 0 c4 rfl rfl lendA (fun p hp => by cases hp) (fun x hx => by cases hx), ?_⟩; (conv => whnf)
          refine ⟨_, _, ptr_ok 0 c5 rfl rfl lendA (fun p hp => by cases hp) (fun x hx => by cases hx), ?_⟩; (conv => whnf)
          refine ⟨_, _, ptr_ok 0 c6 rfl rfl lendA (fun p hp => by cases hp) (fun x hx => by cases hx), ?_⟩; (conv => whnf)
          refine ⟨_, _, long_c t, lendA, ?_⟩; (conv => whnf)
          refine ⟨((t.size - a6 : Nat) : Int), by rw [← wrap64_id] <;> omega, ?_⟩; (conv => whnf)
          refine ⟨_, _, ptr_ok 0 c7 rfl rfl lendA (fun p hp => by cases hp) (fun x hx => by cases hx), ?_⟩; (conv => whnf)
          refine ⟨_, _, hr, lendA, ?_⟩; (conv => whnf)
          refine ⟨_, _, hb, lendA, ?_⟩; (conv => whnf)
          (split <;> rename_i q2 <;> (try simp only [decide_eq_true_eq, decide_eq_false_iff_not, Bool.not_eq_true', Bool.not_eq_false', Bool.not_eq_true, Bool.not_eq_false, List.length_map] at q2) <;> conv => whnf)
          · exact ⟨rfl, ⟨close_int rfl, close_int rfl, close_int rfl, close_int rfl, close_str rfl, close_str rfl, trivial⟩, rfl, ⟨close_bool rfl, trivial⟩, trivial⟩
          · exfalso; exact he q2
    · have hf : ok = false := by rw [hok]; simp [hS]
      rw [hf, if_neg (by decide)]
      refine fun1_of_vc tb_ok mix (fn := Tryz.f64) Tryz.func64 rfl (by kernel_rfl) (by kernel_rfl) (by simp [Tryz.f64]) (by rfl) ?_
      (conv => whnf)
      refine ⟨_, _, ptr_ok 0 c0 rfl rfl lendA (fun p hp => by cases hp) (fun x hx => by cases hx), ?_⟩; (conv => whnf)
      refine ⟨_, _, ptr_ok 0 c1 rfl rfl lendA (fun p hp => by cases hp) (fun x hx => by cases hx), ?_⟩; (conv => whnf)
      refine ⟨_, _, ptr_ok 0 c2 rfl rfl lendA (fun p hp => by cases hp) (fun x hx => by cases hx), ?_⟩; (conv => whnf)
      refine ⟨_, _, ptr_ok 0 c3 rfl rfl lendA (fun p hp => by cases hp) (fun x hx => by cases hx), ?_⟩; (conv => whnf)
      refine ⟨_, _, ptr_ok 0 c4 rfl rfl lendA (fun p hp => by cases hp) (fun x hx => by cases hx), ?_⟩; (conv => whnf)
      refine ⟨_, _, ptr_ok 0 c5 rfl rfl lendA (fun p hp => by cases hp) (fun x hx => by cases hx), ?_⟩; (conv => whnf)
      refine ⟨_, _, ptr_ok 0 c6 rfl rfl lendA (fun p hp => by cases hp) (fun x hx => by cases hx), ?_⟩; (conv => whnf)
      refine ⟨_, _, long_c t, lendA, ?_⟩; (conv => whnf)
      refine ⟨((t.size - a6 : Nat) : Int), by rw [← wrap64_id] <;> omega, ?_⟩; (conv => whnf)
      refine ⟨_, _, ptr_ok 0 c7 rfl rfl lendA (fun p hp => by cases hp) (fun x hx => by cases hx), ?_⟩; (conv => whnf)
      (split <;> rename_i q1 <;> (try simp only [decide_eq_true_eq, decide_eq_false_iff_not, Bool.not_eq_true', Bool.not_eq_false', Bool.not_eq_true, Bool.not_eq_false, List.length_map] at q1) <;> conv => whnf)
      · exact ⟨rfl, ⟨close_int rfl, close_int rfl, close_int rfl, close_int rfl, close_str rfl, close_str rfl, trivial⟩, rfl, ⟨close_bool rfl, trivial⟩, trivial⟩
      · exfalso; exact hS q1
theorem readImpl_c {t : ByteArray} (ht : t.size ≤ 100000) : Fun1 Tryz.prog 64 [.one (.lit (.string t))] (.tup [(true, (readFr t).enc), (false, [.lit (.bool (readOk t))])]) := by
  have h7 : (rd6 t).at_ ≤ t.size := takeR_le (rdN_le t 4)
  have h8 : (rd7 t).at_ ≤ t.size := takeR_le h7
  exact read_walk (b6 := (rd7 t).bad) (b7 := (rd8 t).bad) (a7 := (rd8 t).at_) ht h8 (take_c (r := ⟨0, false⟩) (Nat.zero_le _) (by omega) (by omega)) (num_c (rdN_le t 0) (by omega)) (num_c (rdN_le t 1) (by omega)) (num_c (rdN_le t 2) (by omega)) (num_c (rdN_le t 3) (by omega))
    (take_c (rdN_le t 4) (by omega) (by omega)) (take_c h7 (by omega) (by omega)) (take_c h8 (by omega) (by omega)) (readOk t) rfl
end Go.Proofs.YthdejoipdgahiaaGreatDoor
namespace Go.Proofs.YthdejoipdgahiaaGreatDoor
open Go.RowKit
set_option linter.unusedSimpArgs false
set_option linter.unusedVariables false
set_option maxRecDepth 100000
set_option maxHeartbeats 8000000
def bE (b : Bool) : List AV := [.lit (.bool b)]
theorem updL_get {α : Type} {f : Nat → α} {d : α} {n i : Nat} (h : i < n) : (updL f d n i)[i]? = some d := by
  unfold updL
  rw [List.getElem?_append_right (by simp), List.length_map, List.length_range, Nat.sub_self, List.getElem?_replicate, if_pos (by omega)]
theorem updG {α : Type} {f : Nat → α} {d : α} {n i : Nat} (g : α → List AV) (h : i < n) : ((updL f d n i).map g)[0 + i]? = some (g d) := by rw [Nat.zero_add, List.getElem?_map, updL_get h]; rfl
theorem updS {α : Type} {f : Nat → α} {d x : α} {n i : Nat} (g : α → List AV) (h : i < n) (e : f i = x) : ((updL f d n i).map g).set (0 + i) (g x) = (updL f d n (i + 1)).map g := by
  rw [Nat.zero_add, ← e, ← updL_set h, List.map_set]
theorem updA {α : Type} {f : Nat → α} {d : α} {n i : Nat} (g : α → List AV) (h : i < n) : ((updL f d n n).map g)[0 + i]? = some (g (f i)) := by
  rw [Nat.zero_add, updL_full, List.getElem?_map, List.getElem?_map, List.getElem?_range h]; rfl
theorem updN {α : Type} {f : Nat → α} {d : α} {n i : Nat} (g : α → List AV) (h : i ≤ n) : ((updL f d n i).map g).length = n := by rw [List.length_map, updL_len h]
theorem drvL_at {ds : List DDrive} {i : Nat} (h : i < ds.length) : drvL ds i = ds[i] := by rw [drvL, List.getD_eq_getElem?_getD, List.getElem?_eq_getElem h]; rfl
theorem txtD_at {d : DDrive} {name : ByteArray} (h : findP d.files name < d.files.length) : txtD d name = (d.files[findP d.files name]).text := by
  rw [txtD, List.getElem?_eq_getElem h]; rfl
def objE (k m : Nat) (ds : List DDrive) (name : ByteArray) : List AV :=
  match stO k m (frO k m ds name) (k + m) with
  | some f => [.row true 1 ((updL (thereO ds name) false (k + m) (k + m)).map bE), .row true 1 ((updL (goodI (frO k m ds name) f) false (k + m) (k + m)).map bE), .lit (.string f.whole), .lit (.string (tryT k m (frO k m ds name) f)), .lit (.bool true)]
  | none => [.row true 1 ((updL (thereO ds name) false (k + m) (k + m)).map bE), .row true 1 ((List.replicate (k + m) false).map bE), .lit (.string .empty), .lit (.string .empty), .lit (.bool false)]
theorem objE_nb (k m : Nat) (ds : List DDrive) (name : ByteArray) : (T.agg (objE k m ds name)).nb = true := by
  have h : ∀ l : List Bool, AV.nb (4 + 1) (.row true 1 (l.map bE)) = true := fun l => nb_map (n := 4) (fun y => rfl) _
  unfold objE
  split <;> simp only [T.nb, List.all_cons, List.all_nil, h] <;> rfl
noncomputable def regOf (id : Nat) (x : Code) : Option (Array Oper) :=
  Code.rec (motive := fun _ => Option (Array Oper)) none (fun i ops _ => if i = id then some ops else none)
    (fun _ _ ix iy => match ix with | some o => some o | none => iy)
    (fun _ _ _ ix iy => match ix with | some o => some o | none => iy)
    (fun _ _ ix => ix) (fun _ ix => ix) (fun _ _ _ _ _ _ => none) (fun _ => none) (fun _ _ => none) (fun _ => none) (fun _ => none) none (fun _ => none) x
noncomputable def ops12 : Array Oper := match Tryz.f36.body with
  | some b => (regOf 12 b).getD #[]
  | none => #[]
theorem regA_ok {ops : Array Oper} (hops : ops = ops12) {k m n i : Nat} {ds : List DDrive} {name : ByteArray} {fk fm fi fn : Int} {fw ft : ByteArray} (hlt' : i < n) (hfe : frI ds name i = ⟨fk, fm, fi, fn, fw, ft⟩) (hif : isF k m ds name i = false) (Kn : AS → Prop)
    (hK : ∀ τ : AS, (∀ p ∈ ([(1, .one (.lit (.string name))), (2, .one (.ptr 32 0)), (4, .one (.ptr 64 0)), (5, .one (vN n)), (6, .one (.ptr 96 0)), (7, .one (.loc 496 0 n)), (8, .one (.loc 528 0 n)), (35, .one (.row false 2 (ds.map DDrive.enc))), (36, .one (vN n)), (37, .one (vN i))] : List (Nat × T)), τ.tm p.1 = p.2) → (∀ p ∈ ([(32, .var (DArray.enc ⟨k, m, ds⟩)), (64, .var [.lit (.slice none 0 0), .lit (.slice none 0 0), .lit (.string .empty), .lit (.string .empty), .lit (.bool false)]), (96, .var [.loc 416 0 n, .loc 448 0 n, .lit (.string .empty), .lit (.string .empty), .lit (.bool false)]), (416, .row true 1 ((updL (thereO ds name) false n (i + 1)).map bE)), (448, .row true 1 ((List.replicate n false).map bE)), (496, .row true 6 ((updL (frI ds name) Fr.zero n (i + 1)).map Fr.enc)), (528, .row true 1 ((updL (isF k m ds name) false n (i + 1)).map bE))] : List (Nat × Blk)), τ.mem p.1 = some p.2) → Kn τ) :
    vcReg Tryz.prog tbO36 12 ops (AS.of [(1, .one (.lit (.string name))), (2, .one (.ptr 32 0)), (4, .one (.ptr 64 0)), (5, .one (vN n)), (6, .one (.ptr 96 0)), (7, .one (.loc 496 0 n)), (8, .one (.loc 528 0 n)), (9, .one (vN i)), (13, .one (.ptr 208 0)), (14, .one (.lit (.bool false))), (35, .one (.row false 2 (ds.map DDrive.enc))), (36, .one (vN n)), (37, .one (vN i))] [(32, .var (DArray.enc ⟨k, m, ds⟩)), (64, .var [.lit (.slice none 0 0), .lit (.slice none 0 0), .lit (.string .empty), .lit (.string .empty), .lit (.bool false)]), (96, .var [.loc 416 0 n, .loc 448 0 n, .lit (.string .empty), .lit (.string .empty), .lit (.bool false)]), (416, .row true 1 ((updL (thereO ds name) false n (i + 1)).map bE)), (448, .row true 1 ((List.replicate n false).map bE)), (496, .row true 6 ((updL (frI ds name) Fr.zero n i).map Fr.enc)), (528, .row true 1 ((updL (isF k m ds name) false n i).map bE)), (208, .var [.lit (.int .i64 fk), .lit (.int .i64 fm), .lit (.int .i64 fi), .lit (.int .i64 fn), .lit (.string fw), .lit (.string ft)])]) Kn := by
  conv at hops => rhs; whnf
  subst hops
  (conv => whnf)
  repeat' (first | exact trivial | (apply And.intro <;> conv => whnf) | (refine ⟨i, rfl, by omega, ?_⟩; (conv => whnf)) | (refine ⟨_, updG (f := frI ds name) Fr.enc hlt', ?_⟩; (conv => whnf); refine ⟨_, rfl, ?_⟩; (conv => whnf)) | (refine ⟨_, updG (f := isF k m ds name) bE hlt', ?_⟩; (conv => whnf); refine ⟨_, rfl, ?_⟩; (conv => whnf)) | exact hK _ allsA (all_cons rfl (all_cons rfl (all_cons rfl (all_cons rfl (all_cons rfl (all_cons (eq_row rfl (updS Fr.enc hlt' hfe)) (all_cons (eq_row rfl (updS bE hlt' hif)) all_nil))))))))
theorem regD_ok {ops : Array Oper} (hops : ops = ops12) {k m n i : Nat} {ds : List DDrive} {name : ByteArray} {fk fm fi fn : Int} {fw ft : ByteArray} (hlt' : i < n) (hfe : frI ds name i = ⟨fk, fm, fi, fn, fw, ft⟩) (hd1 : decide (fk = (k : Int)) = true) (hd2 : decide (fm = (m : Int)) = true) (hif : isF k m ds name i = decide (fi = (i : Int))) (Kn : AS → Prop)
    (hK : ∀ τ : AS, (∀ p ∈ ([(1, .one (.lit (.string name))), (2, .one (.ptr 32 0)), (4, .one (.ptr 64 0)), (5, .one (vN n)), (6, .one (.ptr 96 0)), (7, .one (.loc 496 0 n)), (8, .one (.loc 528 0 n)), (35, .one (.row false 2 (ds.map DDrive.enc))), (36, .one (vN n)), (37, .one (vN i))] : List (Nat × T)), τ.tm p.1 = p.2) → (∀ p ∈ ([(32, .var (DArray.enc ⟨k, m, ds⟩)), (64, .var [.lit (.slice none 0 0), .lit (.slice none 0 0), .lit (.string .empty), .lit (.string .empty), .lit (.bool false)]), (96, .var [.loc 416 0 n, .loc 448 0 n, .lit (.string .empty), .lit (.string .empty), .lit (.bool false)]), (416, .row true 1 ((updL (thereO ds name) false n (i + 1)).map bE)), (448, .row true 1 ((List.replicate n false).map bE)), (496, .row true 6 ((updL (frI ds name) Fr.zero n (i + 1)).map Fr.enc)), (528, .row true 1 ((updL (isF k m ds name) false n (i + 1)).map bE))] : List (Nat × Blk)), τ.mem p.1 = some p.2) → Kn τ) :
    vcReg Tryz.prog tbO36 12 ops (AS.of [(1, .one (.lit (.string name))), (2, .one (.ptr 32 0)), (4, .one (.ptr 64 0)), (5, .one (vN n)), (6, .one (.ptr 96 0)), (7, .one (.loc 496 0 n)), (8, .one (.loc 528 0 n)), (9, .one (vN i)), (13, .one (.ptr 208 0)), (14, .one (.lit (.bool true))), (35, .one (.row false 2 (ds.map DDrive.enc))), (36, .one (vN n)), (37, .one (vN i))] [(32, .var (DArray.enc ⟨k, m, ds⟩)), (64, .var [.lit (.slice none 0 0), .lit (.slice none 0 0), .lit (.string .empty), .lit (.string .empty), .lit (.bool false)]), (96, .var [.loc 416 0 n, .loc 448 0 n, .lit (.string .empty), .lit (.string .empty), .lit (.bool false)]), (416, .row true 1 ((updL (thereO ds name) false n (i + 1)).map bE)), (448, .row true 1 ((List.replicate n false).map bE)), (496, .row true 6 ((updL (frI ds name) Fr.zero n i).map Fr.enc)), (528, .row true 1 ((updL (isF k m ds name) false n i).map bE)), (208, .var [.lit (.int .i64 fk), .lit (.int .i64 fm), .lit (.int .i64 fi), .lit (.int .i64 fn), .lit (.string fw), .lit (.string ft)])]) Kn := by
  conv at hops => rhs; whnf
  subst hops
  (conv => whnf)
  repeat' (first | exact trivial | (apply And.intro <;> conv => whnf) | (refine ⟨i, rfl, by omega, ?_⟩; (conv => whnf)) | (refine ⟨_, updG (f := frI ds name) Fr.enc hlt', ?_⟩; (conv => whnf); refine ⟨_, rfl, ?_⟩; (conv => whnf)) | (refine ⟨_, updG (f := isF k m ds name) bE hlt', ?_⟩; (conv => whnf); refine ⟨_, rfl, ?_⟩; (conv => whnf)) | exact hK _ allsA (all_cons rfl (all_cons rfl (all_cons rfl (all_cons rfl (all_cons rfl (all_cons (eq_row rfl (updS Fr.enc hlt' hfe)) (all_cons (eq_row rfl (updS bE hlt' hif)) all_nil))))))) | (simp only [hd1]; conv => whnf) | (simp only [hd2]; conv => whnf))
theorem regC_ok {ops : Array Oper} (hops : ops = ops12) {k m n i : Nat} {ds : List DDrive} {name : ByteArray} {fk fm fi fn : Int} {fw ft : ByteArray} (hlt' : i < n) (hfe : frI ds name i = ⟨fk, fm, fi, fn, fw, ft⟩) (hd1 : decide (fk = (k : Int)) = true) (hd2 : decide (fm = (m : Int)) = false) (hif : isF k m ds name i = false) (Kn : AS → Prop)
    (hK : ∀ τ : AS, (∀ p ∈ ([(1, .one (.lit (.string name))), (2, .one (.ptr 32 0)), (4, .one (.ptr 64 0)), (5, .one (vN n)), (6, .one (.ptr 96 0)), (7, .one (.loc 496 0 n)), (8, .one (.loc 528 0 n)), (35, .one (.row false 2 (ds.map DDrive.enc))), (36, .one (vN n)), (37, .one (vN i))] : List (Nat × T)), τ.tm p.1 = p.2) → (∀ p ∈ ([(32, .var (DArray.enc ⟨k, m, ds⟩)), (64, .var [.lit (.slice none 0 0), .lit (.slice none 0 0), .lit (.string .empty), .lit (.string .empty), .lit (.bool false)]), (96, .var [.loc 416 0 n, .loc 448 0 n, .lit (.string .empty), .lit (.string .empty), .lit (.bool false)]), (416, .row true 1 ((updL (thereO ds name) false n (i + 1)).map bE)), (448, .row true 1 ((List.replicate n false).map bE)), (496, .row true 6 ((updL (frI ds name) Fr.zero n (i + 1)).map Fr.enc)), (528, .row true 1 ((updL (isF k m ds name) false n (i + 1)).map bE))] : List (Nat × Blk)), τ.mem p.1 = some p.2) → Kn τ) :
    vcReg Tryz.prog tbO36 12 ops (AS.of [(1, .one (.lit (.string name))), (2, .one (.ptr 32 0)), (4, .one (.ptr 64 0)), (5, .one (vN n)), (6, .one (.ptr 96 0)), (7, .one (.loc 496 0 n)), (8, .one (.loc 528 0 n)), (9, .one (vN i)), (13, .one (.ptr 208 0)), (14, .one (.lit (.bool true))), (35, .one (.row false 2 (ds.map DDrive.enc))), (36, .one (vN n)), (37, .one (vN i))] [(32, .var (DArray.enc ⟨k, m, ds⟩)), (64, .var [.lit (.slice none 0 0), .lit (.slice none 0 0), .lit (.string .empty), .lit (.string .empty), .lit (.bool false)]), (96, .var [.loc 416 0 n, .loc 448 0 n, .lit (.string .empty), .lit (.string .empty), .lit (.bool false)]), (416, .row true 1 ((updL (thereO ds name) false n (i + 1)).map bE)), (448, .row true 1 ((List.replicate n false).map bE)), (496, .row true 6 ((updL (frI ds name) Fr.zero n i).map Fr.enc)), (528, .row true 1 ((updL (isF k m ds name) false n i).map bE)), (208, .var [.lit (.int .i64 fk), .lit (.int .i64 fm), .lit (.int .i64 fi), .lit (.int .i64 fn), .lit (.string fw), .lit (.string ft)])]) Kn := by
  conv at hops => rhs; whnf
  subst hops
  (conv => whnf)
  repeat' (first | exact trivial | (apply And.intro <;> conv => whnf) | (refine ⟨i, rfl, by omega, ?_⟩; (conv => whnf)) | (refine ⟨_, updG (f := frI ds name) Fr.enc hlt', ?_⟩; (conv => whnf); refine ⟨_, rfl, ?_⟩; (conv => whnf)) | (refine ⟨_, updG (f := isF k m ds name) bE hlt', ?_⟩; (conv => whnf); refine ⟨_, rfl, ?_⟩; (conv => whnf)) | exact hK _ allsA (all_cons rfl (all_cons rfl (all_cons rfl (all_cons rfl (all_cons rfl (all_cons (eq_row rfl (updS Fr.enc hlt' hfe)) (all_cons (eq_row rfl (updS bE hlt' hif)) all_nil))))))) | (simp only [hd1]; conv => whnf) | (simp only [hd2]; conv => whnf))
theorem regB_ok {ops : Array Oper} (hops : ops = ops12) {k m n i : Nat} {ds : List DDrive} {name : ByteArray} {fk fm fi fn : Int} {fw ft : ByteArray} (hlt' : i < n) (hfe : frI ds name i = ⟨fk, fm, fi, fn, fw, ft⟩) (hd1 : decide (fk = (k : Int)) = false) (hif : isF k m ds name i = false) (Kn : AS → Prop)
    (hK : ∀ τ : AS, (∀ p ∈ ([(1, .one (.lit (.string name))), (2, .one (.ptr 32 0)), (4, .one (.ptr 64 0)), (5, .one (vN n)), (6, .one (.ptr 96 0)), (7, .one (.loc 496 0 n)), (8, .one (.loc 528 0 n)), (35, .one (.row false 2 (ds.map DDrive.enc))), (36, .one (vN n)), (37, .one (vN i))] : List (Nat × T)), τ.tm p.1 = p.2) → (∀ p ∈ ([(32, .var (DArray.enc ⟨k, m, ds⟩)), (64, .var [.lit (.slice none 0 0), .lit (.slice none 0 0), .lit (.string .empty), .lit (.string .empty), .lit (.bool false)]), (96, .var [.loc 416 0 n, .loc 448 0 n, .lit (.string .empty), .lit (.string .empty), .lit (.bool false)]), (416, .row true 1 ((updL (thereO ds name) false n (i + 1)).map bE)), (448, .row true 1 ((List.replicate n false).map bE)), (496, .row true 6 ((updL (frI ds name) Fr.zero n (i + 1)).map Fr.enc)), (528, .row true 1 ((updL (isF k m ds name) false n (i + 1)).map bE))] : List (Nat × Blk)), τ.mem p.1 = some p.2) → Kn τ) :
    vcReg Tryz.prog tbO36 12 ops (AS.of [(1, .one (.lit (.string name))), (2, .one (.ptr 32 0)), (4, .one (.ptr 64 0)), (5, .one (vN n)), (6, .one (.ptr 96 0)), (7, .one (.loc 496 0 n)), (8, .one (.loc 528 0 n)), (9, .one (vN i)), (13, .one (.ptr 208 0)), (14, .one (.lit (.bool true))), (35, .one (.row false 2 (ds.map DDrive.enc))), (36, .one (vN n)), (37, .one (vN i))] [(32, .var (DArray.enc ⟨k, m, ds⟩)), (64, .var [.lit (.slice none 0 0), .lit (.slice none 0 0), .lit (.string .empty), .lit (.string .empty), .lit (.bool false)]), (96, .var [.loc 416 0 n, .loc 448 0 n, .lit (.string .empty), .lit (.string .empty), .lit (.bool false)]), (416, .row true 1 ((updL (thereO ds name) false n (i + 1)).map bE)), (448, .row true 1 ((List.replicate n false).map bE)), (496, .row true 6 ((updL (frI ds name) Fr.zero n i).map Fr.enc)), (528, .row true 1 ((updL (isF k m ds name) false n i).map bE)), (208, .var [.lit (.int .i64 fk), .lit (.int .i64 fm), .lit (.int .i64 fi), .lit (.int .i64 fn), .lit (.string fw), .lit (.string ft)])]) Kn := by
  conv at hops => rhs; whnf
  subst hops
  (conv => whnf)
  repeat' (first | exact trivial | (apply And.intro <;> conv => whnf) | (refine ⟨i, rfl, by omega, ?_⟩; (conv => whnf)) | (refine ⟨_, updG (f := frI ds name) Fr.enc hlt', ?_⟩; (conv => whnf); refine ⟨_, rfl, ?_⟩; (conv => whnf)) | (refine ⟨_, updG (f := isF k m ds name) bE hlt', ?_⟩; (conv => whnf); refine ⟨_, rfl, ?_⟩; (conv => whnf)) | exact hK _ allsA (all_cons rfl (all_cons rfl (all_cons rfl (all_cons rfl (all_cons rfl (all_cons (eq_row rfl (updS Fr.enc hlt' hfe)) (all_cons (eq_row rfl (updS bE hlt' hif)) all_nil))))))) | (simp only [hd1]; conv => whnf))
theorem objImpl_c {k m : Nat} {ds : List DDrive} {name : ByteArray} (hk : 1 ≤ k ∧ k ≤ 8) (hm : m ≤ 6) (hdl : ds.length = k + m) (hd : ∀ d ∈ ds, driveOk d = true) (hl : ∀ d ∈ ds, d.files.length ≤ 4294967296) (htx : ∀ d ∈ ds, ∀ f ∈ d.files, f.text.size ≤ 20000) :
    Fun1 Tryz.prog 36 [.agg (DArray.enc ⟨k, m, ds⟩), .one (.lit (.string name))] (.agg (objE k m ds name)) := by
  obtain ⟨n, hn⟩ : ∃ n, k + m = n := ⟨_, rfl⟩
  obtain ⟨fr, hfr⟩ : ∃ fr, frO k m ds name = fr := ⟨_, rfl⟩
  have hgood : ∀ j g, fr j = some g → FrG k m g ∧ isF k m ds name j = true ∧ g = frI ds name j := fun j g h => frO_good (by rw [hfr]; exact h)
  obtain ⟨R, hR⟩ : ∃ R, objE k m ds name = R := ⟨_, rfl⟩
  have hnb := objE_nb k m ds name
  rw [hR] at hnb ⊢
  unfold objE at hR
  rw [hfr, hn] at hR
  rw [hn] at hdl
  have hz : (List.map AV.lit [Value.int .i64 0, Value.int .i64 0, Value.int .i64 0, Value.int .i64 0, Value.string .empty, Value.string .empty]) = Fr.zero.enc := rfl
  refine fun1_of_vc (E := tbO36) (tbF_ok _) mix (fn := Tryz.f36) Tryz.func36 rfl (by kernel_rfl) (by kernel_rfl) (by simp [Tryz.f36]) (by exact hnb) ?_
  (conv => whnf)
  have hlen : (List.map DDrive.enc (DArray.mk (k : Int) (m : Int) ds).drives).length = n := by rw [List.length_map]; exact hdl
  refine ⟨n, by rw [hlen], Int.le_refl _, by rw [hlen]; omega, by rw [hlen]; simp only [maxLen]; omega, ?_⟩; (conv => whnf)
  refine ⟨n, by rw [hlen], Int.le_refl _, by rw [hlen]; omega, by rw [hlen]; simp only [maxLen]; omega, ?_⟩; (conv => whnf)
  refine ⟨n, by rw [hlen], by rw [hlen]; omega, by rw [hlen]; omega, by rw [hlen]; simp only [maxLen]; omega, ?_⟩; (conv => whnf)
  refine ⟨n, by rw [hlen], by rw [hlen]; omega, by rw [hlen]; omega, by rw [hlen]; simp only [maxLen]; omega, ?_⟩; (conv => whnf)
  refine ⟨LG (fun i : Nat => i ≤ n) (fun i => n - i) (fun i => AS.of [(1, .one (.lit (.string name))), (2, .one (.ptr 32 0)), (4, .one (.ptr 64 0)), (5, .one (vN n)), (6, .one (.ptr 96 0)), (7, .one (.loc 496 0 n)), (8, .one (.loc 528 0 n)), (35, .one (.row false 2 (ds.map DDrive.enc))), (36, .one (vN n)), (37, .one (vN i))]
    [(32, .var (DArray.enc ⟨k, m, ds⟩)), (64, .var [.lit (.slice none 0 0), .lit (.slice none 0 0), .lit (.string .empty), .lit (.string .empty), .lit (.bool false)]), (96, .var [.loc 416 0 n, .loc 448 0 n, .lit (.string .empty), .lit (.string .empty), .lit (.bool false)]), (416, .row true 1 ((updL (thereO ds name) false n i).map bE)), (448, .row true 1 ((List.replicate n false).map bE)), (496, .row true 6 ((updL (frI ds name) Fr.zero n i).map Fr.enc)), (528, .row true 1 ((updL (isF k m ds name) false n i).map bE))]),
    lg_init 0 (by omega) ?_, ?_⟩
  · refine weak_of (all_cons rfl (all_cons rfl (all_cons rfl (all_cons (eq_int rfl (by rw [hlen])) (all_cons rfl (all_cons (eq_loc rfl ?_) (all_cons (eq_loc rfl ?_) (all_cons rfl (all_cons (eq_int rfl (by rw [hlen])) (all_cons rfl all_nil)))))))))) (all_cons rfl (all_cons rfl (all_cons ?_ (all_cons (eq_row rfl ?_) (all_cons (eq_row rfl ?_) (all_cons (eq_row rfl ?_) (all_cons (eq_row rfl ?_) all_nil))))))) rfl rfl
    · rfl
    · rfl
    · rfl
    · rw [updL_zero, List.map_replicate]; rfl
    · rw [List.map_replicate]; rfl
    · rw [updL_zero, List.map_replicate]; rfl
    · rw [updL_zero, List.map_replicate]; rfl
  rintro σ j ⟨i, hi, rfl, rfl⟩
  refine ⟨_, Weak.refl _, ?_⟩
  (conv => whnf)
  (split <;> rename_i hb <;> (try simp only [decide_eq_true_eq, decide_eq_false_iff_not, Bool.not_eq_true', Bool.not_eq_false', Bool.not_eq_true, Bool.not_eq_false, List.length_map] at hb) <;> conv => whnf)
  · have hlt' : i < n := by omega
    have hlt : i < ds.length := by omega
    have hdv := drvL_at hlt
    have hmem := List.getElem_mem hlt
    have hfi := find_c ds[i] (hd _ hmem) name (hl _ hmem)
    have hth0 : thereO ds name i = hasN ds[i].files name := by rw [thereO, hdv]
    refine ⟨i, rfl, _, at_map hlt, ?_⟩; (conv => whnf)
    refine ⟨_, _, hfi, lends_cons (lend_bor rfl rfl) (lends_cons (lend_one (la_lit rfl)) lends_nil), ?_⟩; (conv => whnf)
    refine ⟨i, rfl, by omega, ?_⟩; (conv => whnf)
    refine ⟨_, updG (f := thereO ds name) bE hlt', ?_⟩; (conv => whnf)
    refine ⟨_, rfl, ?_⟩; (conv => whnf)
    cases hth : hasN ds[i].files name with
    | false =>
      rw [hth] at hth0
      have h1 : frI ds name i = Fr.zero := by rw [frI, hth0]; rfl
      have h2 : isF k m ds name i = false := by rw [isF, hth0]; rfl
      (conv => whnf)
      refine ⟨AS.of [(1, .one (.lit (.string name))), (2, .one (.ptr 32 0)), (4, .one (.ptr 64 0)), (5, .one (vN n)), (6, .one (.ptr 96 0)), (7, .one (.loc 496 0 n)), (8, .one (.loc 528 0 n)), (35, .one (.row false 2 (ds.map DDrive.enc))), (36, .one (vN n)), (37, .one (vN i))] [(32, .var (DArray.enc ⟨k, m, ds⟩)), (64, .var [.lit (.slice none 0 0), .lit (.slice none 0 0), .lit (.string .empty), .lit (.string .empty), .lit (.bool false)]), (96, .var [.loc 416 0 n, .loc 448 0 n, .lit (.string .empty), .lit (.string .empty), .lit (.bool false)]), (416, .row true 1 ((updL (thereO ds name) false n (i + 1)).map bE)), (448, .row true 1 ((List.replicate n false).map bE)), (496, .row true 6 ((updL (frI ds name) Fr.zero n (i + 1)).map Fr.enc)), (528, .row true 1 ((updL (isF k m ds name) false n (i + 1)).map bE))], weak_of allsA (all_cons rfl (all_cons rfl (all_cons rfl (all_cons (eq_row rfl (updS bE hlt' hth0)) (all_cons rfl (all_cons (eq_row rfl (by rw [updL_skip hlt' h1])) (all_cons (eq_row rfl (by rw [updL_skip hlt' h2])) all_nil))))))) rfl rfl, ?_⟩; (conv => whnf)
      (refine ⟨((i + 1 : Nat) : Int), by rw [← wrap64_id] <;> omega, ?_⟩; conv => whnf)
      exact lg_back (i + 1) (by omega) (by (try dsimp only); omega) (weak_of allsA allsA rfl rfl)
    | true =>
      obtain ⟨hfl, -, -⟩ := findI_eq (hd _ hmem) hth
      rw [hth] at hth0
      have htd := txtD_at hfl
      have hrd := readImpl_c (t := (ds[i].files[findP ds[i].files name]'hfl).text) (by have := htx _ hmem _ (List.getElem_mem hfl); omega)
      have hfe : frI ds name i = readFr (ds[i].files[findP ds[i].files name]'hfl).text := by rw [frI, if_pos hth0, hdv, htd]
      have hif : isF k m ds name i = (readOk (ds[i].files[findP ds[i].files name]'hfl).text && decide ((readFr (ds[i].files[findP ds[i].files name]'hfl).text).k = (k : Int)) && decide ((readFr (ds[i].files[findP ds[i].files name]'hfl).text).m = (m : Int)) && decide ((readFr (ds[i].files[findP ds[i].files name]'hfl).text).i = (i : Int))) := by rw [isF, hth0, hdv, htd]; rfl
      have hth := hth0
      obtain ⟨t, ht⟩ : ∃ t, (ds[i].files[findP ds[i].files name]'hfl).text = t := ⟨_, rfl⟩
      obtain ⟨F, hF⟩ : ∃ F, readFr t = F := ⟨_, rfl⟩
      obtain ⟨ok, hok⟩ : ∃ ok, readOk t = ok := ⟨_, rfl⟩
      rw [ht, hF] at hfe
      rw [ht, hF, hok] at hif
      rw [ht, hF, hok] at hrd
      obtain ⟨fk, fm, fi, fn, fw, ft⟩ := F
      simp only at hif
      dsimp only [Fr.enc] at hrd
      rw [← ht] at hrd
      cases ok with
      | false =>
        rw [Bool.false_and, Bool.false_and, Bool.false_and] at hif
        (conv => whnf)
        refine ⟨findP ds[i].files name, rfl, _, at_map hfl, ?_⟩; (conv => whnf)
        refine ⟨_, _, hrd, lends_cons (lend_one (la_lit rfl)) lends_nil, ?_⟩; (conv => whnf)
        refine ⟨AS.of [(1, .one (.lit (.string name))), (2, .one (.ptr 32 0)), (4, .one (.ptr 64 0)), (5, .one (vN n)), (6, .one (.ptr 96 0)), (7, .one (.loc 496 0 n)), (8, .one (.loc 528 0 n)), (9, .one (vN i)), (13, .one (.ptr 208 0)), (14, .one (.lit (.bool false))), (35, .one (.row false 2 (ds.map DDrive.enc))), (36, .one (vN n)), (37, .one (vN i))] [(32, .var (DArray.enc ⟨k, m, ds⟩)), (64, .var [.lit (.slice none 0 0), .lit (.slice none 0 0), .lit (.string .empty), .lit (.string .empty), .lit (.bool false)]), (96, .var [.loc 416 0 n, .loc 448 0 n, .lit (.string .empty), .lit (.string .empty), .lit (.bool false)]), (416, .row true 1 ((updL (thereO ds name) false n (i + 1)).map bE)), (448, .row true 1 ((List.replicate n false).map bE)), (496, .row true 6 ((updL (frI ds name) Fr.zero n i).map Fr.enc)), (528, .row true 1 ((updL (isF k m ds name) false n i).map bE)), (208, .var [.lit (.int .i64 fk), .lit (.int .i64 fm), .lit (.int .i64 fi), .lit (.int .i64 fn), .lit (.string fw), .lit (.string ft)])], weak_of allsA (all_cons rfl (all_cons rfl (all_cons rfl (all_cons (eq_row rfl (updS bE hlt' hth)) (all_cons rfl (all_cons rfl (all_cons rfl (all_cons rfl all_nil)))))))) rfl rfl, ?_⟩
        refine regA_ok (by kernel_rfl) hlt' hfe hif _ fun τ ht hm => ?_
        conv => whnf
        refine ⟨AS.of [(1, .one (.lit (.string name))), (2, .one (.ptr 32 0)), (4, .one (.ptr 64 0)), (5, .one (vN n)), (6, .one (.ptr 96 0)), (7, .one (.loc 496 0 n)), (8, .one (.loc 528 0 n)), (35, .one (.row false 2 (ds.map DDrive.enc))), (36, .one (vN n)), (37, .one (vN i))] [(32, .var (DArray.enc ⟨k, m, ds⟩)), (64, .var [.lit (.slice none 0 0), .lit (.slice none 0 0), .lit (.string .empty), .lit (.string .empty), .lit (.bool false)]), (96, .var [.loc 416 0 n, .loc 448 0 n, .lit (.string .empty), .lit (.string .empty), .lit (.bool false)]), (416, .row true 1 ((updL (thereO ds name) false n (i + 1)).map bE)), (448, .row true 1 ((List.replicate n false).map bE)), (496, .row true 6 ((updL (frI ds name) Fr.zero n (i + 1)).map Fr.enc)), (528, .row true 1 ((updL (isF k m ds name) false n (i + 1)).map bE))], weak_of ht hm rfl rfl, ?_⟩; (conv => whnf)
        (refine ⟨((i + 1 : Nat) : Int), by rw [← wrap64_id] <;> omega, ?_⟩; conv => whnf)
        exact lg_back (i + 1) (by omega) (by (try dsimp only); omega) (weak_of allsA allsA rfl rfl)
      | true =>
        rw [Bool.true_and] at hif
        by_cases hk1 : fk = (k : Int)
        · by_cases hm1 : fm = (m : Int)
          · have hd1 := decide_eq_true hk1
            have hd2 := decide_eq_true hm1
            rw [decide_eq_true hk1, decide_eq_true hm1, Bool.true_and, Bool.true_and] at hif
            (conv => whnf)
            refine ⟨findP ds[i].files name, rfl, _, at_map hfl, ?_⟩; (conv => whnf)
            refine ⟨_, _, hrd, lends_cons (lend_one (la_lit rfl)) lends_nil, ?_⟩; (conv => whnf)
            refine ⟨AS.of [(1, .one (.lit (.string name))), (2, .one (.ptr 32 0)), (4, .one (.ptr 64 0)), (5, .one (vN n)), (6, .one (.ptr 96 0)), (7, .one (.loc 496 0 n)), (8, .one (.loc 528 0 n)), (9, .one (vN i)), (13, .one (.ptr 208 0)), (14, .one (.lit (.bool true))), (35, .one (.row false 2 (ds.map DDrive.enc))), (36, .one (vN n)), (37, .one (vN i))] [(32, .var (DArray.enc ⟨k, m, ds⟩)), (64, .var [.lit (.slice none 0 0), .lit (.slice none 0 0), .lit (.string .empty), .lit (.string .empty), .lit (.bool false)]), (96, .var [.loc 416 0 n, .loc 448 0 n, .lit (.string .empty), .lit (.string .empty), .lit (.bool false)]), (416, .row true 1 ((updL (thereO ds name) false n (i + 1)).map bE)), (448, .row true 1 ((List.replicate n false).map bE)), (496, .row true 6 ((updL (frI ds name) Fr.zero n i).map Fr.enc)), (528, .row true 1 ((updL (isF k m ds name) false n i).map bE)), (208, .var [.lit (.int .i64 fk), .lit (.int .i64 fm), .lit (.int .i64 fi), .lit (.int .i64 fn), .lit (.string fw), .lit (.string ft)])], weak_of allsA (all_cons rfl (all_cons rfl (all_cons rfl (all_cons (eq_row rfl (updS bE hlt' hth)) (all_cons rfl (all_cons rfl (all_cons rfl (all_cons rfl all_nil)))))))) rfl rfl, ?_⟩
            refine regD_ok (by kernel_rfl) hlt' hfe hd1 hd2 hif _ fun τ ht hm => ?_
            conv => whnf
            refine ⟨AS.of [(1, .one (.lit (.string name))), (2, .one (.ptr 32 0)), (4, .one (.ptr 64 0)), (5, .one (vN n)), (6, .one (.ptr 96 0)), (7, .one (.loc 496 0 n)), (8, .one (.loc 528 0 n)), (35, .one (.row false 2 (ds.map DDrive.enc))), (36, .one (vN n)), (37, .one (vN i))] [(32, .var (DArray.enc ⟨k, m, ds⟩)), (64, .var [.lit (.slice none 0 0), .lit (.slice none 0 0), .lit (.string .empty), .lit (.string .empty), .lit (.bool false)]), (96, .var [.loc 416 0 n, .loc 448 0 n, .lit (.string .empty), .lit (.string .empty), .lit (.bool false)]), (416, .row true 1 ((updL (thereO ds name) false n (i + 1)).map bE)), (448, .row true 1 ((List.replicate n false).map bE)), (496, .row true 6 ((updL (frI ds name) Fr.zero n (i + 1)).map Fr.enc)), (528, .row true 1 ((updL (isF k m ds name) false n (i + 1)).map bE))], weak_of ht hm rfl rfl, ?_⟩; (conv => whnf)
            (refine ⟨((i + 1 : Nat) : Int), by rw [← wrap64_id] <;> omega, ?_⟩; conv => whnf)
            exact lg_back (i + 1) (by omega) (by (try dsimp only); omega) (weak_of allsA allsA rfl rfl)
          · have hd1 := decide_eq_true hk1
            have hd2 := decide_eq_false hm1
            rw [decide_eq_true hk1, decide_eq_false hm1, Bool.true_and, Bool.false_and] at hif
            (conv => whnf)
            refine ⟨findP ds[i].files name, rfl, _, at_map hfl, ?_⟩; (conv => whnf)
            refine ⟨_, _, hrd, lends_cons (lend_one (la_lit rfl)) lends_nil, ?_⟩; (conv => whnf)
            refine ⟨AS.of [(1, .one (.lit (.string name))), (2, .one (.ptr 32 0)), (4, .one (.ptr 64 0)), (5, .one (vN n)), (6, .one (.ptr 96 0)), (7, .one (.loc 496 0 n)), (8, .one (.loc 528 0 n)), (9, .one (vN i)), (13, .one (.ptr 208 0)), (14, .one (.lit (.bool true))), (35, .one (.row false 2 (ds.map DDrive.enc))), (36, .one (vN n)), (37, .one (vN i))] [(32, .var (DArray.enc ⟨k, m, ds⟩)), (64, .var [.lit (.slice none 0 0), .lit (.slice none 0 0), .lit (.string .empty), .lit (.string .empty), .lit (.bool false)]), (96, .var [.loc 416 0 n, .loc 448 0 n, .lit (.string .empty), .lit (.string .empty), .lit (.bool false)]), (416, .row true 1 ((updL (thereO ds name) false n (i + 1)).map bE)), (448, .row true 1 ((List.replicate n false).map bE)), (496, .row true 6 ((updL (frI ds name) Fr.zero n i).map Fr.enc)), (528, .row true 1 ((updL (isF k m ds name) false n i).map bE)), (208, .var [.lit (.int .i64 fk), .lit (.int .i64 fm), .lit (.int .i64 fi), .lit (.int .i64 fn), .lit (.string fw), .lit (.string ft)])], weak_of allsA (all_cons rfl (all_cons rfl (all_cons rfl (all_cons (eq_row rfl (updS bE hlt' hth)) (all_cons rfl (all_cons rfl (all_cons rfl (all_cons rfl all_nil)))))))) rfl rfl, ?_⟩
            refine regC_ok (by kernel_rfl) hlt' hfe hd1 hd2 hif _ fun τ ht hm => ?_
            conv => whnf
            refine ⟨AS.of [(1, .one (.lit (.string name))), (2, .one (.ptr 32 0)), (4, .one (.ptr 64 0)), (5, .one (vN n)), (6, .one (.ptr 96 0)), (7, .one (.loc 496 0 n)), (8, .one (.loc 528 0 n)), (35, .one (.row false 2 (ds.map DDrive.enc))), (36, .one (vN n)), (37, .one (vN i))] [(32, .var (DArray.enc ⟨k, m, ds⟩)), (64, .var [.lit (.slice none 0 0), .lit (.slice none 0 0), .lit (.string .empty), .lit (.string .empty), .lit (.bool false)]), (96, .var [.loc 416 0 n, .loc 448 0 n, .lit (.string .empty), .lit (.string .empty), .lit (.bool false)]), (416, .row true 1 ((updL (thereO ds name) false n (i + 1)).map bE)), (448, .row true 1 ((List.replicate n false).map bE)), (496, .row true 6 ((updL (frI ds name) Fr.zero n (i + 1)).map Fr.enc)), (528, .row true 1 ((updL (isF k m ds name) false n (i + 1)).map bE))], weak_of ht hm rfl rfl, ?_⟩; (conv => whnf)
            (refine ⟨((i + 1 : Nat) : Int), by rw [← wrap64_id] <;> omega, ?_⟩; conv => whnf)
            exact lg_back (i + 1) (by omega) (by (try dsimp only); omega) (weak_of allsA allsA rfl rfl)
        · have hd1 := decide_eq_false hk1
          rw [decide_eq_false hk1, Bool.false_and, Bool.false_and] at hif
          (conv => whnf)
          refine ⟨findP ds[i].files name, rfl, _, at_map hfl, ?_⟩; (conv => whnf)
          refine ⟨_, _, hrd, lends_cons (lend_one (la_lit rfl)) lends_nil, ?_⟩; (conv => whnf)
          refine ⟨AS.of [(1, .one (.lit (.string name))), (2, .one (.ptr 32 0)), (4, .one (.ptr 64 0)), (5, .one (vN n)), (6, .one (.ptr 96 0)), (7, .one (.loc 496 0 n)), (8, .one (.loc 528 0 n)), (9, .one (vN i)), (13, .one (.ptr 208 0)), (14, .one (.lit (.bool true))), (35, .one (.row false 2 (ds.map DDrive.enc))), (36, .one (vN n)), (37, .one (vN i))] [(32, .var (DArray.enc ⟨k, m, ds⟩)), (64, .var [.lit (.slice none 0 0), .lit (.slice none 0 0), .lit (.string .empty), .lit (.string .empty), .lit (.bool false)]), (96, .var [.loc 416 0 n, .loc 448 0 n, .lit (.string .empty), .lit (.string .empty), .lit (.bool false)]), (416, .row true 1 ((updL (thereO ds name) false n (i + 1)).map bE)), (448, .row true 1 ((List.replicate n false).map bE)), (496, .row true 6 ((updL (frI ds name) Fr.zero n i).map Fr.enc)), (528, .row true 1 ((updL (isF k m ds name) false n i).map bE)), (208, .var [.lit (.int .i64 fk), .lit (.int .i64 fm), .lit (.int .i64 fi), .lit (.int .i64 fn), .lit (.string fw), .lit (.string ft)])], weak_of allsA (all_cons rfl (all_cons rfl (all_cons rfl (all_cons (eq_row rfl (updS bE hlt' hth)) (all_cons rfl (all_cons rfl (all_cons rfl (all_cons rfl all_nil)))))))) rfl rfl, ?_⟩
          refine regB_ok (by kernel_rfl) hlt' hfe hd1 hif _ fun τ ht hm => ?_
          conv => whnf
          refine ⟨AS.of [(1, .one (.lit (.string name))), (2, .one (.ptr 32 0)), (4, .one (.ptr 64 0)), (5, .one (vN n)), (6, .one (.ptr 96 0)), (7, .one (.loc 496 0 n)), (8, .one (.loc 528 0 n)), (35, .one (.row false 2 (ds.map DDrive.enc))), (36, .one (vN n)), (37, .one (vN i))] [(32, .var (DArray.enc ⟨k, m, ds⟩)), (64, .var [.lit (.slice none 0 0), .lit (.slice none 0 0), .lit (.string .empty), .lit (.string .empty), .lit (.bool false)]), (96, .var [.loc 416 0 n, .loc 448 0 n, .lit (.string .empty), .lit (.string .empty), .lit (.bool false)]), (416, .row true 1 ((updL (thereO ds name) false n (i + 1)).map bE)), (448, .row true 1 ((List.replicate n false).map bE)), (496, .row true 6 ((updL (frI ds name) Fr.zero n (i + 1)).map Fr.enc)), (528, .row true 1 ((updL (isF k m ds name) false n (i + 1)).map bE))], weak_of ht hm rfl rfl, ?_⟩; (conv => whnf)
          (refine ⟨((i + 1 : Nat) : Int), by rw [← wrap64_id] <;> omega, ?_⟩; conv => whnf)
          exact lg_back (i + 1) (by omega) (by (try dsimp only); omega) (weak_of allsA allsA rfl rfl)
  · have hin : i = n := by omega
    subst hin
    have hF0 : ∀ j, isF k m ds name j = false → fr j = none := fun j h => by rw [← hfr, frO, h]; rfl
    have hF1 : ∀ j, isF k m ds name j = true → fr j = some (frI ds name j) := fun j h => by rw [← hfr, frO, if_pos h]
    obtain ⟨zR, hzR⟩ : ∃ zR, (List.replicate i false).map bE = zR := ⟨_, rfl⟩
    refine ⟨LG (fun q : Nat => q ≤ i ∧ stO k m fr q = none) (fun q => i - q) (fun q => AS.of [(2, .one (.ptr 32 0)), (4, .one (.ptr 64 0)), (5, .one (vN i)), (6, .one (.ptr 96 0)), (7, .one (.loc 496 0 i)), (8, .one (.loc 528 0 i)), (93, .one (.loc 496 0 i)), (94, .one (vN i)), (95, .one (vN q))]
      [(32, .var (DArray.enc ⟨k, m, ds⟩)), (64, .var [.lit (.slice none 0 0), .lit (.slice none 0 0), .lit (.string .empty), .lit (.string .empty), .lit (.bool false)]), (96, .var [.loc 416 0 i, .loc 448 0 i, .lit (.string .empty), .lit (.string .empty), .lit (.bool false)]), (416, .row true 1 ((updL (thereO ds name) false i i).map bE)), (448, .row true 1 ((List.replicate i false).map bE)), (496, .row true 6 ((updL (frI ds name) Fr.zero i i).map Fr.enc)), (528, .row true 1 ((updL (isF k m ds name) false i i).map bE))]),
      lg_init 0 ⟨by omega, rfl⟩ (weak_of allsA allsA rfl rfl), ?_⟩
    rintro σ j ⟨q, ⟨hq, hst⟩, rfl, rfl⟩
    refine ⟨_, Weak.refl _, ?_⟩
    (conv => whnf)
    (split <;> rename_i hb2 <;> (try simp only [decide_eq_true_eq, decide_eq_false_iff_not, Bool.not_eq_true', Bool.not_eq_false', Bool.not_eq_true, Bool.not_eq_false, List.length_map] at hb2) <;> conv => whnf)
    · have hlq : q < i := by omega
      refine ⟨q, rfl, hlq, ?_⟩; (conv => whnf)
      refine ⟨_, updA (f := frI ds name) Fr.enc hlq, ?_⟩; (conv => whnf)
      refine ⟨q, rfl, hlq, ?_⟩; (conv => whnf)
      refine ⟨_, updA (f := isF k m ds name) bE hlq, ?_⟩; (conv => whnf)
      cases hFq : isF k m ds name q with
      | false =>
        have hst1 : stO k m fr (q + 1) = none := by rw [stO, hst, hF0 q hFq]
        (conv => whnf)
        (refine ⟨((q + 1 : Nat) : Int), by rw [← wrap64_id] <;> omega, ?_⟩; conv => whnf)
        exact lg_back (q + 1) ⟨by omega, hst1⟩ (by (try dsimp only); omega) (weak_of allsA allsA rfl rfl)
      | true =>
        have hfq := hF1 q hFq
        obtain ⟨f, hf⟩ : ∃ f, frI ds name q = f := ⟨_, rfl⟩
        rw [hf] at hfq
        have hG := (hgood q f hfq).1
        obtain ⟨n', hn1, hn2, hn3⟩ := hG.n
        have hsS := shO_size (k := k) (fun j g h => (hgood j g h).1) (f := f) (k + m)
        rw [hn1, Int.toNat_natCast] at hsS
        have hdec := decImpl_c (k := k) (m := m) (L := shN k n') (size := n') (l := shO (k + m) fr f) hk hm (shO_len _ _ _) (by omega) rfl hsS
        have hTe : decT k m (shN k n') n' (shO (k + m) fr f) = tryT k m fr f := by rw [tryT, hn1, Int.toNat_natCast]
        have hCe : decC k m (shO (k + m) fr f) = tryC k m fr f := rfl
        have hTs : (tryT k m fr f).size ≤ 20000 := by have := decT_size k m (shN k n') n' (shO (k + m) fr f); rw [hTe] at this; omega
        rw [hTe, hCe, hn] at hdec
        have hdig := digImpl_c (tryT k m fr f) (by omega)
        have hBd : tryB k m fr f = (decide (tryC k m fr f = 0) && decide (digF (tryT k m fr f) = f.whole)) := rfl
        have hshE : (shO i fr f).map Sh.enc = (updL (shI fr f) Sh.none i i).map Sh.enc := by rw [updL_full]; rfl
        rw [hshE] at hdec
        have hst2 : tryB k m fr f = false → stO k m fr (q + 1) = none := fun h => by rw [stO, hst]; simp only [hfq, h]; rfl
        have hst3 : tryB k m fr f = true → stO k m fr i = some f := fun h => by
          have h1 : stO k m fr (q + 1) = some f := by rw [stO, hst]; simp only [hfq, h]; rfl
          have := stO_keep h1 (i - (q + 1))
          rwa [show q + 1 + (i - (q + 1)) = i by omega] at this
        obtain ⟨TT, hTT⟩ : ∃ x, tryT k m fr f = x := ⟨_, rfl⟩
        obtain ⟨CC, hCC⟩ : ∃ x, tryC k m fr f = x := ⟨_, rfl⟩
        rw [hTT, hCC] at hdec hBd
        rw [hTT] at hdig
        (conv => whnf)
        refine ⟨i, rfl, Int.le_refl _, by omega, by simp only [maxLen]; omega, ?_⟩; (conv => whnf)
        refine ⟨i, rfl, Int.le_refl _, by omega, by simp only [maxLen]; omega, ?_⟩; (conv => whnf)
        refine ⟨LG (fun w : Nat => w ≤ i) (fun w => i - w) (fun w => AS.of [(2, .one (.ptr 32 0)), (4, .one (.ptr 64 0)), (5, .one (vN i)), (6, .one (.ptr 96 0)), (7, .one (.loc 496 0 i)), (8, .one (.loc 528 0 i)), (16, .one (.ptr 256 0)), (17, .one (.loc 1696 0 i)), (18, .one (.loc 1728 0 i)), (93, .one (.loc 496 0 i)), (94, .one (vN i)), (95, .one (vN q)), (109, .one (.loc 496 0 i)), (110, .one (vN i)), (111, .one (vN w))]
          [(32, .var (DArray.enc ⟨k, m, ds⟩)), (64, .var [.lit (.slice none 0 0), .lit (.slice none 0 0), .lit (.string .empty), .lit (.string .empty), .lit (.bool false)]), (96, .var [.loc 416 0 i, .loc 448 0 i, .lit (.string .empty), .lit (.string .empty), .lit (.bool false)]), (416, .row true 1 ((updL (thereO ds name) false i i).map bE)), (448, .row true 1 ((List.replicate i false).map bE)), (496, .row true 6 ((updL (frI ds name) Fr.zero i i).map Fr.enc)), (528, .row true 1 ((updL (isF k m ds name) false i i).map bE)), (256, .var f.enc), (1696, .row true 2 ((updL (shI fr f) Sh.none i w).map Sh.enc)), (1728, .row true 1 ((updL (goodI fr f) false i w).map bE))]),
          lg_init 0 (by omega) ?_, ?_⟩
        · refine weak_of allsA (all_cons rfl (all_cons rfl (all_cons rfl (all_cons rfl (all_cons rfl (all_cons rfl (all_cons rfl (all_cons (by rw [← hf]; rfl) (all_cons (eq_row rfl (by rw [updL_zero, List.map_replicate]; rfl)) (all_cons (eq_row rfl (by rw [updL_zero, List.map_replicate]; rfl)) all_nil)))))))))) rfl rfl
        rintro σ j ⟨w, hw, rfl, rfl⟩
        refine ⟨_, Weak.refl _, ?_⟩
        (conv => whnf)
        (split <;> rename_i hb3 <;> (try simp only [decide_eq_true_eq, decide_eq_false_iff_not, Bool.not_eq_true', Bool.not_eq_false', Bool.not_eq_true, Bool.not_eq_false, List.length_map] at hb3) <;> conv => whnf)
        · have hlw : w < i := by omega
          refine ⟨w, rfl, hlw, ?_⟩; (conv => whnf)
          refine ⟨_, updA (f := frI ds name) Fr.enc hlw, ?_⟩; (conv => whnf)
          refine ⟨w, rfl, hlw, ?_⟩; (conv => whnf)
          refine ⟨_, updA (f := isF k m ds name) bE hlw, ?_⟩; (conv => whnf)
          cases hFw : isF k m ds name w with
          | false =>
            have h1 : shI fr f w = Sh.none := by rw [shI, hF0 w hFw]
            have h2 : goodI fr f w = false := by rw [goodI, hF0 w hFw]
            (conv => whnf)
            (refine ⟨((w + 1 : Nat) : Int), by rw [← wrap64_id] <;> omega, ?_⟩; conv => whnf)
            exact lg_back (w + 1) (by omega) (by (try dsimp only); omega) (weak_of allsA (all_cons rfl (all_cons rfl (all_cons rfl (all_cons rfl (all_cons rfl (all_cons rfl (all_cons rfl (all_cons rfl (all_cons (eq_row rfl (by rw [updL_skip hlw h1])) (all_cons (eq_row rfl (by rw [updL_skip hlw h2])) all_nil)))))))))) rfl rfl)
          | true =>
            have hgw := hF1 w hFw
            (conv => whnf)
            by_cases hlk : likeF f (frI ds name w) = true
            · have h1 : shI fr f w = ⟨true, (frI ds name w).text⟩ := by rw [shI, hgw]; simp only [hlk, if_true]
              have h2 : goodI fr f w = true := by rw [goodI, hgw]; exact hlk
              unfold likeF at hlk
              simp only [Bool.and_eq_true, decide_eq_true_eq] at hlk
              (split <;> rename_i c1 <;> (try simp only [decide_eq_true_eq, decide_eq_false_iff_not, Bool.not_eq_true', Bool.not_eq_false', Bool.not_eq_true, Bool.not_eq_false, List.length_map] at c1) <;> conv => whnf)
              · (split <;> rename_i c2 <;> (try simp only [decide_eq_true_eq, decide_eq_false_iff_not, Bool.not_eq_true', Bool.not_eq_false', Bool.not_eq_true, Bool.not_eq_false, List.length_map] at c2) <;> conv => whnf)
                · repeat' (first | exact trivial | (apply And.intro <;> conv => whnf) | (refine ⟨w, rfl, hlw, ?_⟩; (conv => whnf)) | (refine ⟨_, updG (f := shI fr f) Sh.enc hlw, ?_⟩; (conv => whnf); refine ⟨_, rfl, ?_⟩; (conv => whnf)) | (refine ⟨_, updG (f := goodI fr f) bE hlw, ?_⟩; (conv => whnf); refine ⟨_, rfl, ?_⟩; (conv => whnf)) | ((refine ⟨((w + 1 : Nat) : Int), by rw [← wrap64_id] <;> omega, ?_⟩; conv => whnf); exact lg_back (w + 1) (by omega) (by (try dsimp only); omega) (weak_of allsA (all_cons rfl (all_cons rfl (all_cons rfl (all_cons rfl (all_cons rfl (all_cons rfl (all_cons rfl (all_cons rfl (all_cons (eq_row rfl (updS Sh.enc hlw h1)) (all_cons (eq_row rfl (updS bE hlw h2)) all_nil)))))))))) rfl rfl)))
                · exfalso; exact c2 hlk.2
              · exfalso; exact c1 hlk.1
            · have h1 : shI fr f w = Sh.none := by rw [shI, hgw]; simp only [hlk]; rfl
              have h2 : goodI fr f w = false := by rw [goodI, hgw]; exact Bool.eq_false_iff.2 hlk
              unfold likeF at hlk
              simp only [Bool.and_eq_true, decide_eq_true_eq] at hlk
              (split <;> rename_i c1 <;> (try simp only [decide_eq_true_eq, decide_eq_false_iff_not, Bool.not_eq_true', Bool.not_eq_false', Bool.not_eq_true, Bool.not_eq_false, List.length_map] at c1) <;> conv => whnf)
              · (split <;> rename_i c2 <;> (try simp only [decide_eq_true_eq, decide_eq_false_iff_not, Bool.not_eq_true', Bool.not_eq_false', Bool.not_eq_true, Bool.not_eq_false, List.length_map] at c2) <;> conv => whnf)
                · exfalso; exact hlk ⟨c1, c2⟩
                · (refine ⟨((w + 1 : Nat) : Int), by rw [← wrap64_id] <;> omega, ?_⟩; conv => whnf)
                  exact lg_back (w + 1) (by omega) (by (try dsimp only); omega) (weak_of allsA (all_cons rfl (all_cons rfl (all_cons rfl (all_cons rfl (all_cons rfl (all_cons rfl (all_cons rfl (all_cons rfl (all_cons (eq_row rfl (by rw [updL_skip hlw h1])) (all_cons (eq_row rfl (by rw [updL_skip hlw h2])) all_nil)))))))))) rfl rfl)
              · (refine ⟨((w + 1 : Nat) : Int), by rw [← wrap64_id] <;> omega, ?_⟩; conv => whnf)
                exact lg_back (w + 1) (by omega) (by (try dsimp only); omega) (weak_of allsA (all_cons rfl (all_cons rfl (all_cons rfl (all_cons rfl (all_cons rfl (all_cons rfl (all_cons rfl (all_cons rfl (all_cons (eq_row rfl (by rw [updL_skip hlw h1])) (all_cons (eq_row rfl (by rw [updL_skip hlw h2])) all_nil)))))))))) rfl rfl)
        · have hwi : w = i := by omega
          subst hwi
          refine ⟨_, _, hdec, lends_cons (lend_one (la_lit rfl)) (lends_cons (lend_one (la_lit rfl)) (lends_cons (lend_one (la_int hn1.symm)) (lends_cons (lend_one (la_loc rfl rfl rfl (by rw [updN Sh.enc (Nat.le_refl _)]) rfl)) lends_nil))), ?_⟩; (conv => whnf)
          (split <;> rename_i c3 <;> (try simp only [decide_eq_true_eq, decide_eq_false_iff_not, Bool.not_eq_true', Bool.not_eq_false', Bool.not_eq_true, Bool.not_eq_false, List.length_map] at c3) <;> conv => whnf)
          · refine ⟨_, _, hdig, lendA, ?_⟩; (conv => whnf)
            (split <;> rename_i c4 <;> (try simp only [decide_eq_true_eq, decide_eq_false_iff_not, Bool.not_eq_true', Bool.not_eq_false', Bool.not_eq_true, Bool.not_eq_false, List.length_map] at c4) <;> conv => whnf)
            · rw [hst3 (by rw [hBd, decide_eq_true (by omega : CC = 0), decide_eq_true c4]; rfl)] at hR
              simp only [hTT] at hR
              subst hR
              repeat' (first | exact ⟨close_row rfl rfl (by rw [updN (f := thereO ds name) (d := false) bE (Nat.le_refl _)]) rfl, close_row rfl rfl (by rw [updN (f := goodI fr f) (d := false) bE (Nat.le_refl _)]) rfl, close_str rfl, close_str rfl, close_bool rfl, trivial⟩ | exact trivial | (apply And.intro <;> conv => whnf))
            · have hbf : tryB k m fr f = false := by rw [hBd, decide_eq_false c4, Bool.and_false]
              (refine ⟨((q + 1 : Nat) : Int), by rw [← wrap64_id] <;> omega, ?_⟩; conv => whnf)
              exact lg_back (q + 1) ⟨by omega, hst2 hbf⟩ (by (try dsimp only); omega) (weak_of allsA allsA rfl rfl)
          · have hbf : tryB k m fr f = false := by rw [hBd, decide_eq_false (by omega : ¬ CC = 0), Bool.false_and]
            (refine ⟨((q + 1 : Nat) : Int), by rw [← wrap64_id] <;> omega, ?_⟩; conv => whnf)
            exact lg_back (q + 1) ⟨by omega, hst2 hbf⟩ (by (try dsimp only); omega) (weak_of allsA allsA rfl rfl)
    · have hqi : q = i := by omega
      subst hqi
      rw [hst] at hR
      simp only at hR
      subst hR
      exact ⟨close_row rfl rfl (by rw [updN bE (Nat.le_refl _)]) rfl, close_row rfl rfl (by simp) rfl, close_str rfl, close_str rfl, close_bool rfl, trivial⟩
end Go.Proofs.YthdejoipdgahiaaGreatDoor
namespace Go.Proofs.YthdejoipdgahiaaGreatDoor
open Go.RowKit
set_option linter.unusedSimpArgs false
set_option linter.unusedVariables false
set_option maxRecDepth 100000
set_option maxHeartbeats 4000000
theorem matRight_c {r c : Nat} {cs : List Nat} {o : Bool} (hr : 1 ≤ r ∧ r ≤ 16) (hc : 1 ≤ c ∧ c ≤ 16) (hl : cs.length = r * c) (hb : ∀ x ∈ cs, x < 256) :
    Fun1 Tryz.prog 194 [.agg [vN r, vN c, .row o 1 (cs.map eNat)]] (.one (.lit (.bool true))) := by
  have hrc : r * c ≤ 16 * 16 := Nat.mul_le_mul hr.2 hc.2
  refine fun1_of_vc tb_ok mix (fn := Tryz.f194) Tryz.func194 rfl (by kernel_rfl) (by kernel_rfl) (by simp [Tryz.f194]) (by rfl) ?_
  (conv => whnf)
  (split <;> rename_i h1 <;> (try simp only [decide_eq_true_eq, decide_eq_false_iff_not, Bool.not_eq_true', Bool.not_eq_false', Bool.not_eq_true, Bool.not_eq_false, List.length_map] at h1) <;> conv => whnf)
  · exfalso; omega
  (conv => whnf)
  (split <;> rename_i h2 <;> (try simp only [decide_eq_true_eq, decide_eq_false_iff_not, Bool.not_eq_true', Bool.not_eq_false', Bool.not_eq_true, Bool.not_eq_false, List.length_map] at h2) <;> conv => whnf)
  · exfalso; omega
  (conv => whnf)
  (split <;> rename_i h3 <;> (try simp only [decide_eq_true_eq, decide_eq_false_iff_not, Bool.not_eq_true', Bool.not_eq_false', Bool.not_eq_true, Bool.not_eq_false, List.length_map] at h3) <;> conv => whnf)
  · exfalso; omega
  (conv => whnf)
  (split <;> rename_i h4 <;> (try simp only [decide_eq_true_eq, decide_eq_false_iff_not, Bool.not_eq_true', Bool.not_eq_false', Bool.not_eq_true, Bool.not_eq_false, List.length_map] at h4) <;> conv => whnf)
  · exfalso; omega
  (conv => whnf)
  refine ⟨((r * c : Nat) : Int), by rw [← wrap64_id] <;> omega, ?_⟩; (conv => whnf)
  (split <;> rename_i h5 <;> (try simp only [decide_eq_true_eq, decide_eq_false_iff_not, Bool.not_eq_true', Bool.not_eq_false', Bool.not_eq_true, Bool.not_eq_false, List.length_map] at h5) <;> conv => whnf)
  · exfalso; apply h5; simp [hl]
  refine ⟨LG (fun i : Nat => i ≤ cs.length) (fun i => cs.length - i) (fun i => AS.of [(1, .one (.ptr 16 0)), (3, .one (vN i))] [(16, .var [vN r, vN c, .row o 1 (cs.map eNat)])]), lg_init 0 (by omega) (weak_of allsA allsA rfl rfl), ?_⟩
  rintro σ j ⟨i, hi, rfl, rfl⟩
  refine ⟨_, Weak.refl _, ?_⟩
  (conv => whnf)
  (split <;> rename_i h <;> (try simp only [decide_eq_true_eq, decide_eq_false_iff_not, Bool.not_eq_true', Bool.not_eq_false', Bool.not_eq_true, Bool.not_eq_false, List.length_map] at h) <;> conv => whnf)
  · have hlt : i < cs.length := by omega
    refine ⟨i, rfl, _, at_map hlt, ?_⟩; (conv => whnf)
    have hx := hb _ (List.getElem_mem hlt)
    have hy := l02Byte_c (cs[i] : Int)
    rw [show (decide ((0 : Int) ≤ (cs[i] : Int)) && decide ((cs[i] : Int) ≤ 255)) = true by simp; omega] at hy
    refine ⟨_, _, hy, lendA, ?_⟩; (conv => whnf)
    (refine ⟨((i + 1 : Nat) : Int), by rw [← wrap64_id] <;> omega, ?_⟩; conv => whnf)
    exact lg_back (i + 1) (by omega) (by (try dsimp only); omega) (weak_of allsA allsA rfl rfl)
  · exact ⟨close_bool rfl, trivial⟩
theorem l03Copy_c {r c : Nat} {cs : List Nat} {o : Bool} (hl : cs.length ≤ 65536) : Fun1 Tryz.prog 196 [.agg [vN r, vN c, .row o 1 (cs.map eNat)]] (.agg (matE r c cs)) := by
  refine fun1_of_vc tb_ok mix (fn := Tryz.f196) Tryz.func196 rfl (by kernel_rfl) (by kernel_rfl) (by simp [Tryz.f196]) (by exact matE_nb) ?_
  (conv => whnf)
  refine ⟨true, cs.map eNat, ⟨rfl, rfl, rfl⟩, ?_⟩; (conv => whnf)
  refine ⟨_, laid_map (f := eNat) (fun _ => rfl) cs, rfl, by simp [chunk], rfl, by simp [maxLen, chunk]; omega, by simp [chunk]; omega, ?_⟩; (conv => whnf)
  exact ⟨close_int rfl, close_int rfl, close_row rfl rfl (by simp [chunk]) (by simp [chunk, laid]), trivial⟩
theorem matPick_c {k m : Nat} {idx : List Nat} (hk : 1 ≤ k ∧ k ≤ 8) (hm : m ≤ 6) (hl : idx.length = k) (hi : ∀ i ∈ idx, i < k + m) :
    Fun1 Tryz.prog 175 [.agg (matE (k + m) k (cauchyN k m).flatten), .one (.row true 1 (idx.map eNat))] (.agg (matE k k (pickM k m idx).flatten ++ [.lit (.int .i64 0)])) := by
  have hfl : (cauchyN k m).flatten.length = (k + m) * k := cauchy_cells k m
  have hfb : (k + m) * k ≤ 14 * 8 := Nat.mul_le_mul (by omega) (by omega)
  have hpk := pick_ok hk.2 hm hl hi
  have hpl : (pickM k m idx).length = k := hpk.len
  have hR := matRight_c (o := true) (r := k + m) (c := k) (cs := (cauchyN k m).flatten) (by omega) (by omega) hfl (cauchy_lt hk.2 hm)
  have hpf : (pickM k m idx).flatten.length = k * k := by rw [flat_len' hpk.wid, hpk.len]
  have hkk : k * k ≤ 8 * 8 := Nat.mul_le_mul hk.2 hk.2
  have hnb : (T.agg (matE k k (pickM k m idx).flatten ++ [.lit (.int .i64 0)])).nb = true := by
    have : AV.nb (4 + 1) (.row true 1 ((pickM k m idx).flatten.map eNat)) = true := nb_map (n := 4) (fun y => rfl) _
    simp only [T.nb, matE, List.all_cons, List.all_nil, List.cons_append, List.nil_append, this]; rfl
  refine fun1_of_vc tb_ok mix (fn := Tryz.f175) Tryz.func175 rfl (by kernel_rfl) (by kernel_rfl) (by simp [Tryz.f175]) (by exact hnb) ?_
  (conv => whnf)
  (split <;> rename_i h0 <;> (try simp only [decide_eq_true_eq, decide_eq_false_iff_not, Bool.not_eq_true', Bool.not_eq_false', Bool.not_eq_true, Bool.not_eq_false, List.length_map] at h0) <;> conv => whnf)
  · exfalso; rw [hl] at h0; omega
  refine ⟨_, _, hR, lendA, ?_⟩; (conv => whnf)
  (split <;> rename_i h1 <;> (try simp only [decide_eq_true_eq, decide_eq_false_iff_not, Bool.not_eq_true', Bool.not_eq_false', Bool.not_eq_true, Bool.not_eq_false, List.length_map] at h1) <;> conv => whnf)
  · exfalso; rw [hl] at h1; omega
  (conv => whnf)
  (split <;> rename_i h2 <;> (try simp only [decide_eq_true_eq, decide_eq_false_iff_not, Bool.not_eq_true', Bool.not_eq_false', Bool.not_eq_true, Bool.not_eq_false, List.length_map] at h2) <;> conv => whnf)
  · exfalso; rw [hl] at h2; omega
  refine ⟨LG (fun i : Nat => i ≤ k) (fun i => k - i) (fun i => AS.of [(1, .one (.row true 1 (idx.map eNat))), (2, .one (.ptr 32 0)), (4, .one (.ptr 64 0)), (5, .one (.ptr 80 0)), (6, .one (vN i))] [(32, .var (matE (k + m) k (cauchyN k m).flatten)), (64, .var [.lit (.int .i64 0), .lit (.int .i64 0), .lit (.slice none 0 0), .lit (.int .i64 0)]), (80, .var [vN k, vN k, .loc 1136 0 (i * k)]), (1136, .row true 1 (((pickM k m idx).take i).flatten.map eNat))]),
    lg_init 0 (by omega) ?_, ?_⟩
  · refine weak_nilv 80 1136 1 [.lit (.int .i64 ((idx.map eNat).length : Nat)), vN k] [] rfl rfl (weak_of allsA (all_cons rfl (all_cons rfl (all_cons ?_ (all_cons (eq_row rfl (by simp)) all_nil)))) rfl rfl)
    show some (Blk.var [.lit (.int .i64 ((idx.map eNat).length : Nat)), vN k, .loc 1136 0 0]) = some (Blk.var [vN k, vN k, .loc 1136 0 (0 * k)])
    rw [List.length_map, hl, Nat.zero_mul]
  rintro σ j ⟨i, hi', rfl, rfl⟩
  refine ⟨_, Weak.refl _, ?_⟩
  (conv => whnf)
  (split <;> rename_i h <;> (try simp only [decide_eq_true_eq, decide_eq_false_iff_not, Bool.not_eq_true', Bool.not_eq_false', Bool.not_eq_true, Bool.not_eq_false, List.length_map] at h) <;> conv => whnf)
  · have hlt : i < k := by omega
    have hii : i < idx.length := by omega
    have hx := hi _ (List.getElem_mem hii)
    have hrl : (idx[i] + 1) * k ≤ (cauchyN k m).flatten.length := row_len hfl hx
    have hik : i * k ≤ k * k := Nat.mul_le_mul_right _ (by omega)
    have hik1 : (i + 1) * k ≤ k * k := Nat.mul_le_mul_right _ (by omega)
    have htl : ((pickM k m idx).take i).flatten.length = i * k := by rw [flat_len' (fun r hr => hpk.wid r (List.mem_of_mem_take hr)), List.length_take, hpl, Nat.min_eq_left (by omega)]
    have hpi : (pickM k m idx)[i]'(by omega) = rw' (cauchyN k m) idx[i] := by simp [pickM]
    have hrow : (((cauchyN k m).flatten.map eNat).drop (idx[i] * k)).take k = ((pickM k m idx)[i]'(by omega)).map eNat := by
      rw [← List.map_drop, ← List.map_take, flat_row (fun r hr => cauchyN_row r hr) idx[i] (by simp; omega), hpi]
    have hle : (idx[i] + 1) * k = idx[i] * k + k := by rw [Nat.add_mul, Nat.one_mul]
    refine ⟨i, rfl, _, at_map hii, ?_⟩; (conv => whnf)
    refine ⟨i, rfl, _, at_map hii, ?_⟩; (conv => whnf)
    (split <;> rename_i h4 <;> (try simp only [decide_eq_true_eq, decide_eq_false_iff_not, Bool.not_eq_true', Bool.not_eq_false', Bool.not_eq_true, Bool.not_eq_false, List.length_map] at h4) <;> conv => whnf)
    · exfalso; omega
    refine ⟨i, rfl, _, at_map hii, ?_⟩; (conv => whnf)
    refine ⟨((idx[i] * k : Nat) : Int), by rw [← wrap64_id] <;> omega, ?_⟩; (conv => whnf)
    refine ⟨i, rfl, _, at_map hii, ?_⟩; (conv => whnf)
    refine ⟨((idx[i] + 1 : Nat) : Int), by rw [← wrap64_id] <;> omega, ?_⟩; (conv => whnf)
    refine ⟨(((idx[i] + 1) * k : Nat) : Int), by rw [← wrap64_id] <;> omega, ?_⟩; (conv => whnf)
    refine ⟨by simp only [Option.getD]; omega, by simp only [Option.getD]; omega, by simp only [Option.getD, List.length_map]; omega, ((pickM k m idx)[i]'(by omega)).map eNat, ?_, ?_⟩
    · simp only [Option.getD]
      rw [← hrow]; congr 1 <;> omega
    (conv => whnf)
    have hrl2 := hpk.wid _ (List.getElem_mem (show i < (pickM k m idx).length by omega))
    have htk : ((pickM k m idx).take (i + 1)).flatten = ((pickM k m idx).take i).flatten ++ (pickM k m idx)[i]'(by omega) := flat_take_succ (by omega)
    have hlen : i * k + k = (i + 1) * k := by rw [Nat.add_mul, Nat.one_mul]
    refine ⟨_, ((pickM k m idx)[i]'(by omega)).map eNat, ⟨rfl, rfl, rfl⟩, ?_⟩; (conv => whnf)
    refine ⟨_, laid_map (f := eNat) (fun _ => rfl) ((pickM k m idx)[i]'(by omega)), rfl, by rw [List.length_map, htl], rfl, by simp only [maxLen, List.length_map, htl, hrl2]; omega, by simp only [List.length_map, htl, hrl2]; omega, ?_⟩; (conv => whnf)
    (refine ⟨((i + 1 : Nat) : Int), by rw [← wrap64_id] <;> omega, ?_⟩; conv => whnf)
    refine lg_back (i + 1) (by omega) (by (try dsimp only); omega) (weak_of allsA (all_cons rfl (all_cons rfl (all_cons ?_ (all_cons (eq_row rfl (by rw [htk, List.map_append])) all_nil)))) rfl rfl)
    show some (Blk.var [vN k, vN k, .loc 1136 0 (((((pickM k m idx).take i).flatten).map eNat).length + (((pickM k m idx)[i]'(by omega)).map eNat).length)]) = some (Blk.var [vN k, vN k, .loc 1136 0 ((i + 1) * k)])
    rw [List.length_map, List.length_map, htl, hrl2, hlen]
  · have hik : i = k := by omega
    subst hik
    exact ⟨close_int rfl, close_int rfl, close_row rfl rfl (by rw [List.take_of_length_le (Nat.le_of_eq hpl), List.length_map, hpf]) (by rw [List.take_of_length_le (Nat.le_of_eq hpl)]), close_int rfl, trivial⟩
theorem eq_agl {t : T} {a b : AV} {s n m : Nat} (h : t = .agg [a, b, .loc s 0 n]) (e : n = m) : t = .agg [a, b, .loc s 0 m] := by rw [h, e]
theorem eq_varl {t : Option Blk} {a b : AV} {s n m : Nat} (h : t = some (.var [a, b, .loc s 0 n])) (e : n = m) : t = some (.var [a, b, .loc s 0 m]) := by rw [h, e]
theorem matInv_c {k : Nat} {M : List (List Nat)} (hk : 1 ≤ k ∧ k ≤ 8) (h : RowsOk k k M) (hn : NSR k k (cel M)) :
    Fun1 Tryz.prog 174 [.agg (matE k k M.flatten)] (.agg (matE k k (invM k M).flatten ++ [.lit (.int .i64 0)])) := by
  have hMf : M.flatten.length = k * k := by rw [flat_len' h.wid, h.len]
  have hI := invM_ok h hn
  have hIf : (invM k M).flatten.length = k * k := by rw [flat_len' hI.wid, hI.len]
  have hkk : k * k ≤ 8 * 8 := Nat.mul_le_mul hk.2 hk.2
  have hR := matRight_c (o := true) (r := k) (c := k) (cs := M.flatten) (by omega) (by omega) hMf (flat_byte h)
  have hU := unit3_c (n := k) (by omega)
  have hC := l03Copy_c (r := k) (c := k) (cs := M.flatten) (o := true) (by omega)
  have hS := l03Steps_c hk h hn
  rw [show cm k (augR k M) = M.flatten by rw [cm, augR_left h], show cb k (augR k M) = ((List.range k).map fun i => unitR i k).flatten by rw [cb, augR_right h], show cb k (gzR (augR k M) k) = (invM k M).flatten from rfl] at hS
  obtain ⟨C, hCm⟩ : ∃ C, cm k (gzR (augR k M) k) = C := ⟨_, rfl⟩
  rw [hCm] at hS
  have hul : (((List.range k).map fun i => unitR i k).flatten).length = k * k := units_len _ _
  have hnb : (T.agg (matE k k (invM k M).flatten ++ [.lit (.int .i64 0)])).nb = true := by
    have : AV.nb (4 + 1) (.row true 1 ((invM k M).flatten.map eNat)) = true := nb_map (n := 4) (fun y => rfl) _
    simp only [T.nb, matE, List.all_cons, List.all_nil, List.cons_append, List.nil_append, this]; rfl
  refine fun1_of_vc (E := tbO174) (tbF_ok _) mix (fn := Tryz.f174) Tryz.func174 rfl (by kernel_rfl) (by kernel_rfl) (by simp [Tryz.f174]) (by exact hnb) ?_
  (conv => whnf)
  refine ⟨_, _, hR, lendA, ?_⟩; (conv => whnf)
  (split <;> rename_i h1 <;> (try simp only [decide_eq_true_eq, decide_eq_false_iff_not, Bool.not_eq_true', Bool.not_eq_false', Bool.not_eq_true, Bool.not_eq_false, List.length_map] at h1) <;> conv => whnf)
  · exfalso; exact h1 trivial
  refine ⟨_, _, hU, lendA, ?_⟩; (conv => whnf)
  repeat' (first | exact trivial | (apply And.intro <;> conv => whnf) | (refine ⟨_, _, hC, lends_cons (lend_bor rfl rfl) lends_nil, ?_⟩; (conv => whnf)) | (refine ⟨[(1, .one (.ptr 16 0)), (2, .one (.ptr 32 0)), (3, .one (.ptr 48 0)), (19, .agg [vN k, vN k, .loc 306 0 (k * k)]), (20, .agg [vN k, vN k, .loc 274 0 (k * k)]), (22, .one (.ptr 16 0)), (23, .one (vN k))], [(16, .var (matE k k M.flatten)), (32, .var [.lit (.int .i64 0), .lit (.int .i64 0), .lit (.slice none 0 0), .lit (.int .i64 0)]), (48, .var [vN k, vN k, .loc 274 0 (k * k)]), (306, .row true 1 (M.flatten.map eNat)), (274, .row true 1 (((List.range k).map fun i => unitR i k).flatten.map eNat))], weak_of (all_cons rfl (all_cons rfl (all_cons rfl (all_cons (eq_agl rfl (by rw [List.length_map, hMf])) (all_cons (eq_agl rfl (by rw [List.length_map, hul])) (all_cons rfl (all_cons rfl all_nil))))))) (all_cons rfl (all_cons rfl (all_cons (eq_varl rfl (by rw [List.length_map, hul])) (all_cons rfl (all_cons rfl all_nil))))) rfl rfl, _, _, _, _, [306, 274], hS, rens_cons (ren_agg (all2_cons (ren_lit rfl) (all2_cons (ren_lit rfl) (all2_cons (ren_loc rfl rfl) all2_nil)))) (rens_cons (ren_agg (all2_cons (ren_lit rfl) (all2_cons (ren_lit rfl) (all2_cons (ren_loc rfl rfl) all2_nil)))) rens_nil), hasRows_cons rfl (hasRows_cons rfl hasRows_nil), (by decide), rfl, Bool.or_eq_true_iff.2 (.inr (flat2 _ _)), rfl, ?_⟩; (conv => whnf)) | (refine ⟨[(1, .one (.ptr 16 0)), (2, .one (.ptr 32 0)), (3, .one (.ptr 48 0)), (19, .agg [vN k, vN k, .loc 306 0 (k * k)]), (20, .agg [vN k, vN k, .loc 274 0 (k * k)]), (22, .one (.ptr 16 0))], [(16, .var (matE k k M.flatten)), (32, .var [.lit (.int .i64 0), .lit (.int .i64 0), .lit (.slice none 0 0), .lit (.int .i64 0)]), (48, .var [vN k, vN k, .loc 274 0 (k * k)]), (306, .row true 1 (M.flatten.map eNat)), (274, .row true 1 (((List.range k).map fun i => unitR i k).flatten.map eNat))], weak_of (all_cons rfl (all_cons rfl (all_cons rfl (all_cons (eq_agl rfl (by rw [List.length_map, hMf])) (all_cons (eq_agl rfl (by rw [List.length_map, hul])) (all_cons rfl all_nil)))))) (all_cons rfl (all_cons rfl (all_cons (eq_varl rfl (by rw [List.length_map, hul])) (all_cons rfl (all_cons rfl all_nil))))) rfl rfl, _, _, _, _, [306, 274], hS, rens_cons (ren_agg (all2_cons (ren_lit rfl) (all2_cons (ren_lit rfl) (all2_cons (ren_loc rfl rfl) all2_nil)))) (rens_cons (ren_agg (all2_cons (ren_lit rfl) (all2_cons (ren_lit rfl) (all2_cons (ren_loc rfl rfl) all2_nil)))) rens_nil), hasRows_cons rfl (hasRows_cons rfl hasRows_nil), (by decide), rfl, Bool.or_eq_true_iff.2 (.inr (flat2 _ _)), rfl, ?_⟩; (conv => whnf)))
  all_goals (split <;> rename_i h9 <;> (try simp only [decide_eq_true_eq, decide_eq_false_iff_not, Bool.not_eq_true', Bool.not_eq_false', Bool.not_eq_true, Bool.not_eq_false, List.length_map] at h9) <;> conv => whnf)
  all_goals first | (exfalso; omega) | exact ⟨close_int rfl, close_int rfl, close_row rfl rfl (by rw [List.length_map, hIf]) rfl, close_int rfl, trivial⟩
end Go.Proofs.YthdejoipdgahiaaGreatDoor
namespace Go.Proofs.YthdejoipdgahiaaGreatDoor
open Go.RowKit
set_option linter.unusedSimpArgs false
set_option linter.unusedVariables false
set_option maxRecDepth 100000
set_option maxHeartbeats 4000000
def datR (k m L : Nat) (l : List Sh) : List ByteArray := if (idxS k m l).length < k then [] else dataS k m L l
def datB (k m : Nat) (l : List Sh) : Bool := decide (k ≤ (idxS k m l).length)
theorem l04Data_c {k m L : Nat} {l : List Sh} (hk : 1 ≤ k ∧ k ≤ 8) (hm : m ≤ 6) (hl : l.length = k + m) (hs : ∀ s ∈ l, s.have_ = true → s.text.size = L) (hL : L ≤ 1000000) :
    Fun1 Tryz.prog 145 [.one (vN k), .one (vN m), .one (.row true 2 (l.map Sh.enc))] (.tup [(false, [.row true 1 ((datR k m L l).map eStr)]), (false, [.lit (.bool (datB k m l))])]) := by
  have hbig : k ≤ (idxS k m l).length → ∀ Z : List ByteArray, Z = dataS k m L l → ∃ M : List (List Nat), M = pickM k m (idxN k (k + m) (hasS l)) ∧ Fun1 Tryz.prog 175 [.agg (matE (k + m) k (cauchyN k m).flatten), .one (.row true 1 ((idxN k (k + m) (hasS l)).map eNat))] (.agg (matE k k M.flatten ++ [.lit (.int .i64 0)])) ∧
      Fun1 Tryz.prog 174 [.agg (matE k k M.flatten)] (.agg (matE k k (invM k M).flatten ++ [.lit (.int .i64 0)])) ∧
      Fun1 Tryz.prog 74 [.agg (matE k k (invM k M).flatten), .one (.row true 1 (((idxN k (k + m) (hasS l)).map (txtS l)).map eStr))] (.one (.row true 1 (Z.map eStr))) := by
    intro hn Z hZ
    have hil : (idxS k m l).length = k := Nat.le_antisymm (idxN_le _ _ _) hn
    have hmem : ∀ i ∈ idxS k m l, i < k + m := fun i hi => (idxN_mem hi).1
    have hP := pick_ok hk.2 hm hil hmem
    have hN := pick_ns hk.2 hm (idxN_cnt hn)
    have hI := invM_ok hP hN
    have hIf : (invM k (pickM k m (idxS k m l))).flatten.length = k * k := by rw [flat_len' hI.wid, hI.len]
    have htl := txsS_len k m l
    refine ⟨_, rfl, matPick_c hk hm hil hmem, matInv_c hk hP hN, ?_⟩
    rw [hZ]
    exact combSpec_c k k L (invM k (pickM k m (idxS k m l))).flatten (txsS k m l) (by omega) (by omega) hIf (flat_byte hI) (by omega) (by omega) (by omega) (txsS_size hl hs) (by omega)
  have hca := cauchySpec_c hk hm
  have hidx : idxS k m l = idxN k (k + m) (hasS l) := rfl
  obtain ⟨Z, hZ⟩ : ∃ Z, dataS k m L l = Z := ⟨_, rfl⟩
  have hR : datR k m L l = if (idxN k (k + m) (hasS l)).length < k then [] else Z := by rw [datR, hidx, hZ]
  have hB : datB k m l = decide (k ≤ (idxN k (k + m) (hasS l)).length) := rfl
  obtain ⟨R, hRR⟩ : ∃ R, datR k m L l = R := ⟨_, rfl⟩
  obtain ⟨B, hBB⟩ : ∃ B, datB k m l = B := ⟨_, rfl⟩
  rw [hRR] at hR
  rw [hBB] at hB
  rw [hRR, hBB]
  have h0 : idxN k 0 (hasS l) = [] := by simp [idxN]
  refine fun1_of_vc tb_ok mix (fn := Tryz.f145) Tryz.func145 rfl (by kernel_rfl) (by kernel_rfl) (by simp [Tryz.f145]) (by exact rem_nb _ _) ?_
  (conv => whnf)
  refine ⟨LG (fun i : Nat => i ≤ k + m) (fun i => k + m - i) (fun i => AS.of [(0, .one (vN k)), (1, .one (vN m)), (2, .one (.row true 2 (l.map Sh.enc))), (8, .one (.loc 192 0 (idxN k i (hasS l)).length)), (9, .one (.loc 208 0 (idxN k i (hasS l)).length)), (10, .one (vN i))] [(192, .row true 1 ((idxN k i (hasS l)).map eNat)), (208, .row true 1 (((idxN k i (hasS l)).map (txtS l)).map eStr))]),
    lg_init 0 (by omega) (weak_of (all_cons rfl (all_cons rfl (all_cons rfl (all_cons (eq_loc rfl (by simp [h0])) (all_cons (eq_loc rfl (by simp [h0])) (all_cons rfl all_nil)))))) (all_cons (eq_row rfl (by simp [h0]; rfl)) (all_cons (eq_row rfl (by simp [h0]; rfl)) all_nil)) rfl rfl), ?_⟩
  rintro σ j ⟨i, hi, rfl, rfl⟩
  have hcl := idxN_le k i (hasS l)
  refine ⟨_, Weak.refl _, ?_⟩
  (conv => whnf)
  refine ⟨((k + m : Nat) : Int), by rw [← wrap64_id] <;> omega, ?_⟩; (conv => whnf)
  (split <;> rename_i hb <;> (try simp only [decide_eq_true_eq, decide_eq_false_iff_not, Bool.not_eq_true', Bool.not_eq_false', Bool.not_eq_true, Bool.not_eq_false, List.length_map] at hb) <;> conv => whnf)
  · (split <;> rename_i hb2 <;> (try simp only [decide_eq_true_eq, decide_eq_false_iff_not, Bool.not_eq_true', Bool.not_eq_false', Bool.not_eq_true, Bool.not_eq_false, List.length_map] at hb2) <;> conv => whnf)
    · have hlt : i < l.length := by omega
      have hh := hasS_at hlt
      have ht := txtS_at hlt
      obtain ⟨⟨hv, tx⟩, hse⟩ : ∃ s, l[i] = s := ⟨_, rfl⟩
      have hat : (l.map Sh.enc)[i]? = some (Sh.enc ⟨hv, tx⟩) := by rw [← hse]; exact at_map hlt
      rw [hse] at hh ht
      simp only at hh ht
      cases hv
      · have hsk := idxN_skip (k := k) (i := i) (h := hasS l) (.inl hh)
        refine ⟨i, rfl, _, hat, ?_⟩; (conv => whnf)
        (refine ⟨((i + 1 : Nat) : Int), by rw [← wrap64_id] <;> omega, ?_⟩; conv => whnf)
        exact lg_back (i + 1) (by omega) (by (try dsimp only); omega) (weak_of (all_cons rfl (all_cons rfl (all_cons rfl (all_cons (eq_loc rfl (by rw [hsk])) (all_cons (eq_loc rfl (by rw [hsk])) (all_cons rfl all_nil)))))) (all_cons (eq_row rfl (by rw [hsk])) (all_cons (eq_row rfl (by rw [hsk])) all_nil)) rfl rfl)
      · have hlt2 : (idxN k i (hasS l)).length < k := by simpa using hb2
        have htk := idxN_take (k := k) (i := i) (h := hasS l) hh hlt2
        refine ⟨i, rfl, _, hat, ?_⟩; (conv => whnf)
        refine ⟨true, [eNat i], ⟨rfl, by simp [chunk], rfl, rfl⟩, ?_⟩; (conv => whnf)
        refine ⟨_, laid_map (f := eNat) (fun _ => rfl) [i], rfl, by simp, rfl, by simp [maxLen]; omega, by simp; omega, ?_⟩; (conv => whnf)
        refine ⟨i, rfl, _, hat, ?_⟩; (conv => whnf)
        refine ⟨true, [eStr tx], ⟨rfl, by simp [chunk], rfl, rfl⟩, ?_⟩; (conv => whnf)
        refine ⟨_, laid_map (f := eStr) (fun _ => rfl) [tx], rfl, by simp, rfl, by simp [maxLen]; omega, by simp; omega, ?_⟩; (conv => whnf)
        (refine ⟨((i + 1 : Nat) : Int), by rw [← wrap64_id] <;> omega, ?_⟩; conv => whnf)
        exact lg_back (i + 1) (by omega) (by (try dsimp only); omega) (weak_of (all_cons rfl (all_cons rfl (all_cons rfl (all_cons (eq_loc rfl (by rw [htk]; simp)) (all_cons (eq_loc rfl (by rw [htk]; simp)) (all_cons rfl all_nil)))))) (all_cons (eq_row rfl (by first | (rw [htk, List.map_append]; done) | (rw [htk, List.map_append]; rfl))) (all_cons (eq_row rfl (by first | (rw [htk, List.map_append, List.map_append, ← ht]; done) | (rw [htk, List.map_append, List.map_append, ← ht]; rfl))) all_nil)) rfl rfl)
    · have hfin : idxN k (k + m) (hasS l) = idxN k i (hasS l) := by
        have h8 : k ≤ (idxN k i (hasS l)).length := by simp at hb2; omega
        obtain ⟨d, hd⟩ : ∃ d, k + m = i + d := ⟨k + m - i, by omega⟩
        rw [hd]; exact idxN_full h8 d
      rw [hfin] at hR hB hbig
      by_cases hn : (idxN k i (hasS l)).length < k
      · rw [if_pos hn] at hR
        rw [decide_eq_false (by omega)] at hB
        subst hR hB
        (split <;> rename_i h7 <;> (try simp only [decide_eq_true_eq, decide_eq_false_iff_not, Bool.not_eq_true', Bool.not_eq_false', Bool.not_eq_true, Bool.not_eq_false, List.length_map] at h7) <;> conv => whnf)
        · exact ⟨rfl, ⟨close_row rfl rfl rfl rfl, trivial⟩, rfl, ⟨close_bool rfl, trivial⟩, trivial⟩
        · exfalso; apply h7; simpa using hn
      · rw [if_neg hn] at hR
        rw [decide_eq_true (by omega)] at hB
        subst hR hB
        obtain ⟨M, -, c1, c2, c3⟩ := hbig (by rw [hidx, hfin]; omega) R hZ.symm
        have hil : (idxN k i (hasS l)).length = k := by omega
        (split <;> rename_i h7 <;> (try simp only [decide_eq_true_eq, decide_eq_false_iff_not, Bool.not_eq_true', Bool.not_eq_false', Bool.not_eq_true, Bool.not_eq_false, List.length_map] at h7) <;> conv => whnf)
        · exfalso; apply hn; simpa using h7
        refine ⟨_, _, hca, lendA, ?_⟩; (conv => whnf)
        refine ⟨_, _, c1, lends_cons (lend_agg (all2_cons (la_int rfl) (all2_cons (la_int rfl) (all2_cons (la_loc rfl rfl rfl rfl rfl) all2_nil)))) (lends_cons (lend_one (la_loc rfl rfl rfl (by simp) rfl)) lends_nil), ?_⟩; (conv => whnf)
        refine ⟨_, _, c2, lends_cons (lend_agg (all2_cons (la_int rfl) (all2_cons (la_int rfl) (all2_cons (la_loc rfl rfl rfl rfl rfl) all2_nil)))) lends_nil, ?_⟩; (conv => whnf)
        refine ⟨_, _, c3, lends_cons (lend_agg (all2_cons (la_int rfl) (all2_cons (la_int rfl) (all2_cons (la_loc rfl rfl rfl rfl rfl) all2_nil)))) (lends_cons (lend_one (la_loc rfl rfl rfl (by simp) rfl)) lends_nil), ?_⟩; (conv => whnf)
        exact ⟨rfl, ⟨close_row rfl rfl rfl rfl, trivial⟩, rfl, ⟨close_bool rfl, trivial⟩, trivial⟩
  · have hfin : idxN k (k + m) (hasS l) = idxN k i (hasS l) := by rw [show k + m = i by omega]
    rw [hfin] at hR hB hbig
    by_cases hn : (idxN k i (hasS l)).length < k
    · rw [if_pos hn] at hR
      rw [decide_eq_false (by omega)] at hB
      subst hR hB
      (split <;> rename_i h7 <;> (try simp only [decide_eq_true_eq, decide_eq_false_iff_not, Bool.not_eq_true', Bool.not_eq_false', Bool.not_eq_true, Bool.not_eq_false, List.length_map] at h7) <;> conv => whnf)
      · exact ⟨rfl, ⟨close_row rfl rfl rfl rfl, trivial⟩, rfl, ⟨close_bool rfl, trivial⟩, trivial⟩
      · exfalso; apply h7; simpa using hn
    · rw [if_neg hn] at hR
      rw [decide_eq_true (by omega)] at hB
      subst hR hB
      obtain ⟨M, -, c1, c2, c3⟩ := hbig (by rw [hidx, hfin]; omega) R hZ.symm
      have hil : (idxN k i (hasS l)).length = k := by omega
      (split <;> rename_i h7 <;> (try simp only [decide_eq_true_eq, decide_eq_false_iff_not, Bool.not_eq_true', Bool.not_eq_false', Bool.not_eq_true, Bool.not_eq_false, List.length_map] at h7) <;> conv => whnf)
      · exfalso; apply hn; simpa using h7
      refine ⟨_, _, hca, lendA, ?_⟩; (conv => whnf)
      refine ⟨_, _, c1, lends_cons (lend_agg (all2_cons (la_int rfl) (all2_cons (la_int rfl) (all2_cons (la_loc rfl rfl rfl rfl rfl) all2_nil)))) (lends_cons (lend_one (la_loc rfl rfl rfl (by simp) rfl)) lends_nil), ?_⟩; (conv => whnf)
      refine ⟨_, _, c2, lends_cons (lend_agg (all2_cons (la_int rfl) (all2_cons (la_int rfl) (all2_cons (la_loc rfl rfl rfl rfl rfl) all2_nil)))) lends_nil, ?_⟩; (conv => whnf)
      refine ⟨_, _, c3, lends_cons (lend_agg (all2_cons (la_int rfl) (all2_cons (la_int rfl) (all2_cons (la_loc rfl rfl rfl rfl rfl) all2_nil)))) (lends_cons (lend_one (la_loc rfl rfl rfl (by simp) rfl)) lends_nil), ?_⟩; (conv => whnf)
      exact ⟨rfl, ⟨close_row rfl rfl rfl rfl, trivial⟩, rfl, ⟨close_bool rfl, trivial⟩, trivial⟩
end Go.Proofs.YthdejoipdgahiaaGreatDoor
namespace Go.Proofs.YthdejoipdgahiaaGreatDoor
open Go.RowKit
set_option linter.unusedSimpArgs false
set_option linter.unusedVariables false
set_option maxRecDepth 100000
set_option maxHeartbeats 4000000
theorem catN_step {D : List ByteArray} {i : Nat} (h : i < D.length) : catN (D.take (i + 1)) = catN (D.take i) ++ D[i].data.toList := by
  unfold catN
  rw [List.take_succ_eq_append_getElem h, List.map_append, List.flatten_append]; simp
theorem decSpec_c {k m L size : Nat} {l : List Sh} (hk : 1 ≤ k ∧ k ≤ 8) (hm : m ≤ 6) (hl : l.length = k + m) (hz : size ≤ 20000) (hL : shN k size = L) (hs : ∀ s ∈ l, s.have_ = true → s.text.size = L) :
    Fun1 Tryz.prog 111 [.one (vN k), .one (vN m), .one (vN size), .one (.row true 2 (l.map Sh.enc))] (.agg [.lit (.string (decT k m L size l)), .lit (.int .i64 (decC k m l : Nat))]) := by
  have hb := shN_bounds (size := size) hk.1
  rw [hL] at hb
  have hsh := shardSpec_c hk hz
  rw [hL] at hsh
  have hcode := codeSpec_c k m
  rw [codeN hk hm] at hcode
  have hsz := l04Size_c (size : Int)
  rw [show (decide ((0 : Int) ≤ (size : Int)) && decide ((size : Int) ≤ 20000)) = true by simp; omega] at hsz
  have hd := l04Data_c hk hm hl hs (by omega : L ≤ 1000000)
  have hT : decT k m L size l = if (idxS k m l).length < k then .empty else txtOf ((catN (dataS k m L l)).take size) := rfl
  have hC : decC k m l = if (idxS k m l).length < k then 10 else 0 := rfl
  have hDl : (dataS k m L l).length = k := combN_len _ _ _ _ _
  have hcl : (catN (dataS k m L l)).length = k * L := by rw [catN_len (l := dataS k m L l) (L := L) combN_size, hDl]
  have hDs : ∀ t ∈ dataS k m L l, t.size = L := combN_size
  have hdR : datR k m L l = if (idxS k m l).length < k then [] else dataS k m L l := rfl
  have hdB : datB k m l = decide (k ≤ (idxS k m l).length) := rfl
  obtain ⟨D, hD⟩ : ∃ D, dataS k m L l = D := ⟨_, rfl⟩
  rw [hD] at hT hdR hDl hcl hDs
  obtain ⟨T0, hT0⟩ : ∃ x, decT k m L size l = x := ⟨_, rfl⟩
  obtain ⟨C0, hC0⟩ : ∃ x, decC k m l = x := ⟨_, rfl⟩
  rw [hT0] at hT ⊢
  rw [hC0] at hC ⊢
  obtain ⟨R, hR⟩ : ∃ x, datR k m L l = x := ⟨_, rfl⟩
  obtain ⟨B, hB⟩ : ∃ x, datB k m l = x := ⟨_, rfl⟩
  rw [hR] at hd hdR
  rw [hB] at hd hdB
  refine fun1_of_vc tb_ok mix (fn := Tryz.f111) Tryz.func111 rfl (by kernel_rfl) (by kernel_rfl) (by simp [Tryz.f111]) (by rfl) ?_
  (conv => whnf)
  (split <;> rename_i h0 <;> (try simp only [decide_eq_true_eq, decide_eq_false_iff_not, Bool.not_eq_true', Bool.not_eq_false', Bool.not_eq_true, Bool.not_eq_false, List.length_map] at h0) <;> conv => whnf)
  · exfalso; omega
  refine ⟨_, _, hcode, lendA, ?_⟩; (conv => whnf)
  refine ⟨_, _, hsz, lendA, ?_⟩; (conv => whnf)
  refine ⟨((k + m : Nat) : Int), by rw [← wrap64_id] <;> omega, ?_⟩; (conv => whnf)
  (split <;> rename_i hb2 <;> (try simp only [decide_eq_true_eq, decide_eq_false_iff_not, Bool.not_eq_true', Bool.not_eq_false', Bool.not_eq_true, Bool.not_eq_false, List.length_map] at hb2) <;> conv => whnf)
  · exfalso; apply hb2; simp [hl]
  refine ⟨LG (fun i : Nat => i ≤ k + m) (fun i => k + m - i) (fun i => AS.of [(0, .one (vN k)), (1, .one (vN m)), (2, .one (vN size)), (3, .one (.row true 2 (l.map Sh.enc))), (8, .one (.ptr 128 0)), (9, .one (vN i))] [(128, .var [.lit (.string .empty), .lit (.int .i64 0)])]),
    lg_init 0 (by omega) (weak_of allsA allsA rfl rfl), ?_⟩
  rintro σ j ⟨i, hi, rfl, rfl⟩
  refine ⟨_, Weak.refl _, ?_⟩
  (conv => whnf)
  (split <;> rename_i hb <;> (try simp only [decide_eq_true_eq, decide_eq_false_iff_not, Bool.not_eq_true', Bool.not_eq_false', Bool.not_eq_true, Bool.not_eq_false, List.length_map] at hb) <;> conv => whnf)
  · have hlt : i < l.length := by omega
    obtain ⟨⟨hv, tx⟩, hse⟩ : ∃ s, l[i] = s := ⟨_, rfl⟩
    have hat : (l.map Sh.enc)[i]? = some (Sh.enc ⟨hv, tx⟩) := by rw [← hse]; exact at_map hlt
    have hts := hs _ (List.getElem_mem hlt)
    rw [hse] at hts
    cases hv
    · refine ⟨i, rfl, _, hat, ?_⟩; (conv => whnf)
      (refine ⟨((i + 1 : Nat) : Int), by rw [← wrap64_id] <;> omega, ?_⟩; conv => whnf)
      exact lg_back (i + 1) (by omega) (by (try dsimp only); omega) (weak_of allsA allsA rfl rfl)
    · refine ⟨i, rfl, _, hat, ?_⟩; (conv => whnf)
      refine ⟨i, rfl, _, hat, ?_⟩; (conv => whnf)
      refine ⟨_, _, hsh, lendA, ?_⟩; (conv => whnf)
      have hts' : tx.size = L := hts rfl
      (split <;> rename_i h5 <;> (try simp only [decide_eq_true_eq, decide_eq_false_iff_not, Bool.not_eq_true', Bool.not_eq_false', Bool.not_eq_true, Bool.not_eq_false, List.length_map] at h5) <;> conv => whnf)
      · exfalso; apply h5; simp [hts']
      · (refine ⟨((i + 1 : Nat) : Int), by rw [← wrap64_id] <;> omega, ?_⟩; conv => whnf)
        exact lg_back (i + 1) (by omega) (by (try dsimp only); omega) (weak_of allsA allsA rfl rfl)
  · refine ⟨_, _, hd, lendA, ?_⟩; (conv => whnf)
    by_cases hn : (idxS k m l).length < k
    · rw [if_pos hn] at hT hC
      rw [decide_eq_false (by omega)] at hdB
      subst hT hC hdB
      exact ⟨close_str rfl, close_int rfl, trivial⟩
    · rw [if_neg hn] at hT hC hdR
      rw [decide_eq_true (by omega)] at hdB
      subst hT hC hdB hdR
      (conv => whnf)
      refine ⟨LG (fun i : Nat => i ≤ k) (fun i => k - i) (fun i => AS.of [(2, .one (vN size)), (8, .one (.ptr 128 0)), (10, .one (.loc 1024 0 k)), (12, .one (.loc 1120 0 (catN (R.take i)).length)), (13, .one (vN i))] [(128, .var [.lit (.string .empty), .lit (.int .i64 0)]), (1024, .row true 1 (R.map eStr)), (1120, .row true 1 ((catN (R.take i)).map byteE))]),
        lg_init 0 (by omega) (weak_of (all_cons rfl (all_cons rfl (all_cons (eq_loc rfl (by simp [hDl])) (all_cons rfl (all_cons rfl all_nil))))) allsA rfl rfl), ?_⟩
      rintro σ j ⟨i, hi, rfl, rfl⟩
      refine ⟨_, Weak.refl _, ?_⟩
      (conv => whnf)
      (split <;> rename_i h6 <;> (try simp only [decide_eq_true_eq, decide_eq_false_iff_not, Bool.not_eq_true', Bool.not_eq_false', Bool.not_eq_true, Bool.not_eq_false, List.length_map] at h6) <;> conv => whnf)
      · have hlt : i < R.length := by omega
        refine ⟨i, rfl, by omega, ?_⟩; (conv => whnf)
        refine ⟨_, at_map0 hlt, ?_⟩; (conv => whnf)
        have hst := catN_step hlt
        have hsl : R[i].data.toList.length = R[i].size := by simp
        have hRi : R[i].size = L := hDs _ (List.getElem_mem hlt)
        have hcu : (catN (R.take i)).length = i * L := by rw [catN_len (fun t ht => hDs t (List.mem_of_mem_take ht)), List.length_take, Nat.min_eq_left (by omega)]
        have hiL : i * L ≤ k * L := Nat.mul_le_mul_right _ (by omega)
        refine ⟨true, R[i].data.toList.map byteE, ⟨rfl, rfl, rfl⟩, ?_⟩; (conv => whnf)
        refine ⟨_, laid_map (f := byteE) (fun _ => rfl) R[i].data.toList, rfl, by simp, rfl, by simp only [maxLen, List.length_map, hsl, hRi, hcu]; omega, by simp only [List.length_map, hsl, hRi, hcu]; omega, ?_⟩; (conv => whnf)
        (refine ⟨((i + 1 : Nat) : Int), by rw [← wrap64_id] <;> omega, ?_⟩; conv => whnf)
        exact lg_back (i + 1) (by omega) (by (try dsimp only); omega) (weak_of (all_cons rfl (all_cons rfl (all_cons rfl (all_cons (eq_loc rfl (by rw [hst]; simp)) (all_cons rfl all_nil))))) (all_cons rfl (all_cons rfl (all_cons (eq_row rfl (by rw [hst, List.map_append])) all_nil))) rfl rfl)
      · have hik : i = k := by omega
        subst hik
        have hRt : R.take i = R := List.take_of_length_le (by omega)
        refine ⟨by simp only [Option.getD]; omega, by simp only [Option.getD, List.length_map, hRt]; omega, by simp only [Option.getD, List.length_map, hRt]; omega, ?_⟩; (conv => whnf)
        refine ⟨0, size, rfl, by simp only [Option.getD]; omega, ?_⟩; (conv => whnf)
        refine ⟨true, _, (catN R).take size, ⟨rfl, by simp only [List.length_map, hRt]; omega, rfl, rfl⟩, by rw [List.drop_zero, hRt, List.map_take], ?_⟩; (conv => whnf)
        exact ⟨close_str rfl, close_int rfl, trivial⟩
end Go.Proofs.YthdejoipdgahiaaGreatDoor
namespace Go.Proofs.YthdejoipdgahiaaGreatDoor
open Go.RowKit
set_option linter.unusedSimpArgs false
set_option linter.unusedVariables false
set_option maxRecDepth 100000
set_option maxHeartbeats 4000000
theorem getSpec_c {t : ByteArray} {at_ : Nat} (ht : t.size ≤ 20000) (ha : at_ ≤ 2000000) : Fun1 Tryz.prog 108 [.one (.lit (.string t)), .one (vN at_)] (.agg [.lit (.int .i64 (getN t at_).1), vN (getN t at_).2.1, vN (getN t at_).2.2]) := by
  obtain ⟨R, hRR⟩ : ∃ R, getN t at_ = R := ⟨_, rfl⟩
  rw [hRR]
  refine fun1_of_vc tb_ok mix (fn := Tryz.f108) Tryz.func108 rfl (by kernel_rfl) (by kernel_rfl) (by simp [Tryz.f108]) (by rfl) ?_
  (conv => whnf)
  (split <;> rename_i h0 <;> (try simp only [decide_eq_true_eq, decide_eq_false_iff_not, Bool.not_eq_true', Bool.not_eq_false', Bool.not_eq_true, Bool.not_eq_false, List.length_map] at h0) <;> conv => whnf)
  · exfalso; omega
  refine ⟨LG (getI t at_ R) (fun p => p.1) (fun p => AS.of [(0, .one (.lit (.string t))), (1, .one (vN at_)), (4, .one (.ptr 64 0)), (5, .one (vU p.2.2)), (6, .one (vN p.2.1))] [(64, .var [.lit (.int .i64 0), .lit (.int .i64 0), .lit (.int .i64 0)])]),
    lg_init (10, 0, 0) ⟨hRR, rfl, by decide, by decide⟩ (weak_of allsA allsA rfl rfl), ?_⟩
  rintro σ k ⟨⟨f, i, u⟩, ⟨hR, hf, hf0, hu⟩, hk, rfl⟩
  simp only at hR hf hf0 hu hk
  obtain ⟨g, rfl⟩ : ∃ g, f = g + 1 := ⟨f - 1, by omega⟩
  have hpw := pow_mono128 (i := i) (by omega)
  rw [getF] at hR
  dsimp only
  refine ⟨_, Weak.refl _, ?_⟩
  (conv => whnf)
  (split <;> rename_i h9 <;> (try simp only [decide_eq_true_eq, decide_eq_false_iff_not, Bool.not_eq_true', Bool.not_eq_false', Bool.not_eq_true, Bool.not_eq_false, List.length_map] at h9) <;> conv => whnf)
  · refine ⟨(t.size : Int) - (i : Int), by rw [← wrap64_id] <;> omega, ?_⟩; (conv => whnf)
    (split <;> rename_i hb <;> (try simp only [decide_eq_true_eq, decide_eq_false_iff_not, Bool.not_eq_true', Bool.not_eq_false', Bool.not_eq_true, Bool.not_eq_false, List.length_map] at hb) <;> conv => whnf)
    · rw [if_pos (by omega)] at hR
      subst hR
      exact ⟨close_int rfl, close_int rfl, close_int rfl, trivial⟩
    · rw [if_neg (by omega)] at hR
      refine ⟨((at_ + i : Nat) : Int), by rw [← wrap64_id] <;> omega, ?_⟩; (conv => whnf)
      refine ⟨at_ + i, rfl, by omega, ?_⟩; (conv => whnf)
      have hBd : byteAt t (at_ + i) = t.data.toList.getD (at_ + i) 0 := rfl
      obtain ⟨B, hB⟩ : ∃ B, t.data.toList.getD (at_ + i) 0 = B := ⟨_, rfl⟩
      rw [hBd, hB] at hR
      rw [hB]
      have hBl := B.toNat_lt
      refine ⟨(B.toNat : Int), (wrapU (by omega)).symm, ?_⟩; (conv => whnf)
      by_cases hE1 : i = 9 ∧ 1 < B.toNat
      · rw [if_pos (.inl hE1)] at hR
        subst hR
        (split <;> rename_i q1 <;> (try simp only [decide_eq_true_eq, decide_eq_false_iff_not, Bool.not_eq_true', Bool.not_eq_false', Bool.not_eq_true, Bool.not_eq_false, List.length_map] at q1) <;> conv => whnf)
        · (split <;> rename_i q2 <;> (try simp only [decide_eq_true_eq, decide_eq_false_iff_not, Bool.not_eq_true', Bool.not_eq_false', Bool.not_eq_true, Bool.not_eq_false, List.length_map] at q2) <;> conv => whnf)
          · exact ⟨close_int rfl, close_int rfl, close_int rfl, trivial⟩
          · exfalso; omega
        · exfalso; omega
      · obtain ⟨hv, hs⟩ := shl_room (B := B) (i := i) (u := u) (by omega) hu hE1
        have hU : u + B.toNat % 128 * 128 ^ i = u + B.toNat % 128 * 2 ^ (7 * i) := by rw [pow128]
        rw [hU] at hR
        (split <;> rename_i q1 <;> (try simp only [decide_eq_true_eq, decide_eq_false_iff_not, Bool.not_eq_true', Bool.not_eq_false', Bool.not_eq_true, Bool.not_eq_false, List.length_map] at q1) <;> conv => whnf)
        · (split <;> rename_i q2 <;> (try simp only [decide_eq_true_eq, decide_eq_false_iff_not, Bool.not_eq_true', Bool.not_eq_false', Bool.not_eq_true, Bool.not_eq_false, List.length_map] at q2) <;> conv => whnf)
          · exfalso; omega
          · skip
            refine ⟨by decide, ((B.toNat % 128 : Nat) : Int), rfl, ?_⟩; (conv => whnf)
            refine ⟨((7 * i : Nat) : Int), by rw [← wrap64_id] <;> omega, ?_⟩; (conv => whnf)
            refine ⟨((7 * i : Nat) : Int), (wrapU (by omega)).symm, ?_⟩; (conv => whnf)
            refine ⟨by omega, _, (shlv (v := B.toNat % 128) (i := i) (by omega) hv).symm, ?_⟩; (conv => whnf)
            refine ⟨((u + B.toNat % 128 * 2 ^ (7 * i) : Nat) : Int), by rw [← wrapU hs, Int.natCast_add], ?_⟩; (conv => whnf)
            obtain ⟨U, hUU⟩ : ∃ U, u + B.toNat % 128 * 2 ^ (7 * i) = U := ⟨_, rfl⟩
            have hs' := hs
            rw [hUU] at hs' ⊢
            (split <;> rename_i q3 <;> (try simp only [decide_eq_true_eq, decide_eq_false_iff_not, Bool.not_eq_true', Bool.not_eq_false', Bool.not_eq_true, Bool.not_eq_false, List.length_map] at q3) <;> conv => whnf)
            · have hL : B.toNat < 128 := by omega
              (split <;> rename_i q4 <;> (try simp only [decide_eq_true_eq, decide_eq_false_iff_not, Bool.not_eq_true', Bool.not_eq_false', Bool.not_eq_true, Bool.not_eq_false, List.length_map] at q4) <;> conv => whnf)
              · (split <;> rename_i q5 <;> (try simp only [decide_eq_true_eq, decide_eq_false_iff_not, Bool.not_eq_true', Bool.not_eq_false', Bool.not_eq_true, Bool.not_eq_false, List.length_map] at q5) <;> conv => whnf)
                · rw [if_pos (.inr ⟨by omega, by omega⟩)] at hR
                  subst hR
                  exact ⟨close_int rfl, close_int rfl, close_int rfl, trivial⟩
                · have hE2 : ¬ ((i = 9 ∧ 1 < B.toNat) ∨ (B.toNat = 0 ∧ 0 < i)) := by omega
                  have hS2 : 0 ≤ 0 := Nat.le_refl 0
                  rw [if_neg hE2, if_pos hL, show B.toNat * 128 ^ i = B.toNat % 128 * 2 ^ (7 * i) by rw [Nat.mod_eq_of_lt hL, pow128], hUU] at hR
                  subst hR
                  refine ⟨by decide, ((U / 2 : Nat) : Int), by rw [show (U : Int).tdiv 2 = ((U / 2 : Nat) : Int) from rfl]; exact (wrapU (by omega)).symm, ?_⟩; (conv => whnf)
                  refine ⟨((U / 2 : Nat) : Int), (wrapN (by omega)).symm, ?_⟩; (conv => whnf)
                  refine ⟨by decide, ((U % 2 : Nat) : Int), rfl, ?_⟩; (conv => whnf)
                  (split <;> rename_i q6 <;> (try simp only [decide_eq_true_eq, decide_eq_false_iff_not, Bool.not_eq_true', Bool.not_eq_false', Bool.not_eq_true, Bool.not_eq_false, List.length_map] at q6) <;> conv => whnf)
                  · refine ⟨-((U / 2 : Nat) : Int), by rw [← wrap64_id] <;> omega, ?_⟩; (conv => whnf)
                    refine ⟨-((U / 2 : Nat) : Int) - 1, by rw [← wrap64_id] <;> omega, ?_⟩; (conv => whnf)
                    refine ⟨((at_ + i : Nat) : Int), by rw [← wrap64_id] <;> omega, ?_⟩; (conv => whnf)
                    refine ⟨((at_ + i + 1 : Nat) : Int), by rw [← wrap64_id] <;> omega, ?_⟩; (conv => whnf)
                    exact ⟨close_int (by rw [unf_eq, if_pos (by omega)]), close_int rfl, close_int rfl, trivial⟩
                  · refine ⟨((at_ + i : Nat) : Int), by rw [← wrap64_id] <;> omega, ?_⟩; (conv => whnf)
                    refine ⟨((at_ + i + 1 : Nat) : Int), by rw [← wrap64_id] <;> omega, ?_⟩; (conv => whnf)
                    exact ⟨close_int (by rw [unf_eq, if_neg (by omega)]), close_int rfl, close_int rfl, trivial⟩
              · have hE2 : ¬ ((i = 9 ∧ 1 < B.toNat) ∨ (B.toNat = 0 ∧ 0 < i)) := by omega
                have hS2 : 0 ≤ 0 := Nat.le_refl 0
                rw [if_neg hE2, if_pos hL, show B.toNat * 128 ^ i = B.toNat % 128 * 2 ^ (7 * i) by rw [Nat.mod_eq_of_lt hL, pow128], hUU] at hR
                subst hR
                refine ⟨by decide, ((U / 2 : Nat) : Int), by rw [show (U : Int).tdiv 2 = ((U / 2 : Nat) : Int) from rfl]; exact (wrapU (by omega)).symm, ?_⟩; (conv => whnf)
                refine ⟨((U / 2 : Nat) : Int), (wrapN (by omega)).symm, ?_⟩; (conv => whnf)
                refine ⟨by decide, ((U % 2 : Nat) : Int), rfl, ?_⟩; (conv => whnf)
                (split <;> rename_i q6 <;> (try simp only [decide_eq_true_eq, decide_eq_false_iff_not, Bool.not_eq_true', Bool.not_eq_false', Bool.not_eq_true, Bool.not_eq_false, List.length_map] at q6) <;> conv => whnf)
                · refine ⟨-((U / 2 : Nat) : Int), by rw [← wrap64_id] <;> omega, ?_⟩; (conv => whnf)
                  refine ⟨-((U / 2 : Nat) : Int) - 1, by rw [← wrap64_id] <;> omega, ?_⟩; (conv => whnf)
                  refine ⟨((at_ + i : Nat) : Int), by rw [← wrap64_id] <;> omega, ?_⟩; (conv => whnf)
                  refine ⟨((at_ + i + 1 : Nat) : Int), by rw [← wrap64_id] <;> omega, ?_⟩; (conv => whnf)
                  exact ⟨close_int (by rw [unf_eq, if_pos (by omega)]), close_int rfl, close_int rfl, trivial⟩
                · refine ⟨((at_ + i : Nat) : Int), by rw [← wrap64_id] <;> omega, ?_⟩; (conv => whnf)
                  refine ⟨((at_ + i + 1 : Nat) : Int), by rw [← wrap64_id] <;> omega, ?_⟩; (conv => whnf)
                  exact ⟨close_int (by rw [unf_eq, if_neg (by omega)]), close_int rfl, close_int rfl, trivial⟩
            · have hE2 : ¬ ((i = 9 ∧ 1 < B.toNat) ∨ (B.toNat = 0 ∧ 0 < i)) := by omega
              rw [if_neg hE2, if_neg (by omega)] at hR
              have hi9 : i ≠ 9 := by omega
              (refine ⟨((i + 1 : Nat) : Int), by rw [← wrap64_id] <;> omega, ?_⟩; conv => whnf)
              exact lg_back (g, i + 1, U) ⟨by rw [← hUU]; exact hR, by show g + (i + 1) = 10; omega, by show 0 < g; omega, by show U < 128 ^ (i + 1); rw [← hUU, ← hU, Nat.pow_succ]; have := Nat.mul_le_mul_right (128 ^ i) (show B.toNat % 128 ≤ 127 by omega); omega⟩ (by show g < k; omega) (weak_of allsA allsA rfl rfl)
        · skip
          refine ⟨by decide, ((B.toNat % 128 : Nat) : Int), rfl, ?_⟩; (conv => whnf)
          refine ⟨((7 * i : Nat) : Int), by rw [← wrap64_id] <;> omega, ?_⟩; (conv => whnf)
          refine ⟨((7 * i : Nat) : Int), (wrapU (by omega)).symm, ?_⟩; (conv => whnf)
          refine ⟨by omega, _, (shlv (v := B.toNat % 128) (i := i) (by omega) hv).symm, ?_⟩; (conv => whnf)
          refine ⟨((u + B.toNat % 128 * 2 ^ (7 * i) : Nat) : Int), by rw [← wrapU hs, Int.natCast_add], ?_⟩; (conv => whnf)
          obtain ⟨U, hUU⟩ : ∃ U, u + B.toNat % 128 * 2 ^ (7 * i) = U := ⟨_, rfl⟩
          have hs' := hs
          rw [hUU] at hs' ⊢
          (split <;> rename_i q3 <;> (try simp only [decide_eq_true_eq, decide_eq_false_iff_not, Bool.not_eq_true', Bool.not_eq_false', Bool.not_eq_true, Bool.not_eq_false, List.length_map] at q3) <;> conv => whnf)
          · have hL : B.toNat < 128 := by omega
            (split <;> rename_i q4 <;> (try simp only [decide_eq_true_eq, decide_eq_false_iff_not, Bool.not_eq_true', Bool.not_eq_false', Bool.not_eq_true, Bool.not_eq_false, List.length_map] at q4) <;> conv => whnf)
            · (split <;> rename_i q5 <;> (try simp only [decide_eq_true_eq, decide_eq_false_iff_not, Bool.not_eq_true', Bool.not_eq_false', Bool.not_eq_true, Bool.not_eq_false, List.length_map] at q5) <;> conv => whnf)
              · rw [if_pos (.inr ⟨by omega, by omega⟩)] at hR
                subst hR
                exact ⟨close_int rfl, close_int rfl, close_int rfl, trivial⟩
              · have hE2 : ¬ ((i = 9 ∧ 1 < B.toNat) ∨ (B.toNat = 0 ∧ 0 < i)) := by omega
                have hS2 : 0 ≤ 0 := Nat.le_refl 0
                rw [if_neg hE2, if_pos hL, show B.toNat * 128 ^ i = B.toNat % 128 * 2 ^ (7 * i) by rw [Nat.mod_eq_of_lt hL, pow128], hUU] at hR
                subst hR
                refine ⟨by decide, ((U / 2 : Nat) : Int), by rw [show (U : Int).tdiv 2 = ((U / 2 : Nat) : Int) from rfl]; exact (wrapU (by omega)).symm, ?_⟩; (conv => whnf)
                refine ⟨((U / 2 : Nat) : Int), (wrapN (by omega)).symm, ?_⟩; (conv => whnf)
                refine ⟨by decide, ((U % 2 : Nat) : Int), rfl, ?_⟩; (conv => whnf)
                (split <;> rename_i q6 <;> (try simp only [decide_eq_true_eq, decide_eq_false_iff_not, Bool.not_eq_true', Bool.not_eq_false', Bool.not_eq_true, Bool.not_eq_false, List.length_map] at q6) <;> conv => whnf)
                · refine ⟨-((U / 2 : Nat) : Int), by rw [← wrap64_id] <;> omega, ?_⟩; (conv => whnf)
                  refine ⟨-((U / 2 : Nat) : Int) - 1, by rw [← wrap64_id] <;> omega, ?_⟩; (conv => whnf)
                  refine ⟨((at_ + i : Nat) : Int), by rw [← wrap64_id] <;> omega, ?_⟩; (conv => whnf)
                  refine ⟨((at_ + i + 1 : Nat) : Int), by rw [← wrap64_id] <;> omega, ?_⟩; (conv => whnf)
                  exact ⟨close_int (by rw [unf_eq, if_pos (by omega)]), close_int rfl, close_int rfl, trivial⟩
                · refine ⟨((at_ + i : Nat) : Int), by rw [← wrap64_id] <;> omega, ?_⟩; (conv => whnf)
                  refine ⟨((at_ + i + 1 : Nat) : Int), by rw [← wrap64_id] <;> omega, ?_⟩; (conv => whnf)
                  exact ⟨close_int (by rw [unf_eq, if_neg (by omega)]), close_int rfl, close_int rfl, trivial⟩
            · have hE2 : ¬ ((i = 9 ∧ 1 < B.toNat) ∨ (B.toNat = 0 ∧ 0 < i)) := by omega
              have hS2 : 0 ≤ 0 := Nat.le_refl 0
              rw [if_neg hE2, if_pos hL, show B.toNat * 128 ^ i = B.toNat % 128 * 2 ^ (7 * i) by rw [Nat.mod_eq_of_lt hL, pow128], hUU] at hR
              subst hR
              refine ⟨by decide, ((U / 2 : Nat) : Int), by rw [show (U : Int).tdiv 2 = ((U / 2 : Nat) : Int) from rfl]; exact (wrapU (by omega)).symm, ?_⟩; (conv => whnf)
              refine ⟨((U / 2 : Nat) : Int), (wrapN (by omega)).symm, ?_⟩; (conv => whnf)
              refine ⟨by decide, ((U % 2 : Nat) : Int), rfl, ?_⟩; (conv => whnf)
              (split <;> rename_i q6 <;> (try simp only [decide_eq_true_eq, decide_eq_false_iff_not, Bool.not_eq_true', Bool.not_eq_false', Bool.not_eq_true, Bool.not_eq_false, List.length_map] at q6) <;> conv => whnf)
              · refine ⟨-((U / 2 : Nat) : Int), by rw [← wrap64_id] <;> omega, ?_⟩; (conv => whnf)
                refine ⟨-((U / 2 : Nat) : Int) - 1, by rw [← wrap64_id] <;> omega, ?_⟩; (conv => whnf)
                refine ⟨((at_ + i : Nat) : Int), by rw [← wrap64_id] <;> omega, ?_⟩; (conv => whnf)
                refine ⟨((at_ + i + 1 : Nat) : Int), by rw [← wrap64_id] <;> omega, ?_⟩; (conv => whnf)
                exact ⟨close_int (by rw [unf_eq, if_pos (by omega)]), close_int rfl, close_int rfl, trivial⟩
              · refine ⟨((at_ + i : Nat) : Int), by rw [← wrap64_id] <;> omega, ?_⟩; (conv => whnf)
                refine ⟨((at_ + i + 1 : Nat) : Int), by rw [← wrap64_id] <;> omega, ?_⟩; (conv => whnf)
                exact ⟨close_int (by rw [unf_eq, if_neg (by omega)]), close_int rfl, close_int rfl, trivial⟩
          · have hE2 : ¬ ((i = 9 ∧ 1 < B.toNat) ∨ (B.toNat = 0 ∧ 0 < i)) := by omega
            rw [if_neg hE2, if_neg (by omega)] at hR
            have hi9 : i ≠ 9 := by omega
            (refine ⟨((i + 1 : Nat) : Int), by rw [← wrap64_id] <;> omega, ?_⟩; conv => whnf)
            exact lg_back (g, i + 1, U) ⟨by rw [← hUU]; exact hR, by show g + (i + 1) = 10; omega, by show 0 < g; omega, by show U < 128 ^ (i + 1); rw [← hUU, ← hU, Nat.pow_succ]; have := Nat.mul_le_mul_right (128 ^ i) (show B.toNat % 128 ≤ 127 by omega); omega⟩ (by show g < k; omega) (weak_of allsA allsA rfl rfl)
  · exfalso; omega
end Go.Proofs.YthdejoipdgahiaaGreatDoor
namespace Go.Proofs.YthdejoipdgahiaaGreatDoor
open Go.RowKit
set_option linter.unusedSimpArgs false
set_option linter.unusedVariables false
set_option maxRecDepth 100000
set_option maxHeartbeats 4000000
theorem frRightS_c (f : Fr) : Fun1 Tryz.prog 109 [.agg f.enc] (.one (.lit (.bool f.right))) := by
  obtain ⟨k, m, i, n, wh, tx⟩ := f
  obtain ⟨R, hR⟩ : ∃ R, Fr.right ⟨k, m, i, n, wh, tx⟩ = R := ⟨_, rfl⟩
  rw [hR]
  dsimp only [Fr.enc]
  have no : ∀ {P : Prop}, ((Fr.mk k m i n wh tx).right = true → P) → ¬ P → R = false := fun h hn => by
    rw [← hR]; exact Bool.eq_false_iff.2 fun e => hn (h e)
  have hiff := Fr.right_iff (f := ⟨k, m, i, n, wh, tx⟩)
  simp only at hiff
  have hc := codeSpec_c k m
  by_cases h1 : codeOk k m = true
  · have hk : 1 ≤ k ∧ k ≤ 8 ∧ 0 ≤ m ∧ m ≤ 6 := by
      unfold codeOk at h1
      simp only [Bool.and_eq_true, decide_eq_true_eq] at h1
      exact ⟨h1.1.1.1, h1.1.1.2, h1.1.2, h1.2⟩
    rw [h1] at hc
    obtain ⟨k', rfl⟩ : ∃ k' : Nat, k = k' := ⟨k.toNat, by omega⟩
    refine fun1_of_vc tb_ok mix (fn := Tryz.f109) Tryz.func109 rfl (by kernel_rfl) (by kernel_rfl) (by simp [Tryz.f109]) (by rfl) ?_
    (conv => whnf)
    refine ⟨_, _, hc, lendA, ?_⟩; (conv => whnf)
    (split <;> rename_i q1 <;> (try simp only [decide_eq_true_eq, decide_eq_false_iff_not, Bool.not_eq_true', Bool.not_eq_false', Bool.not_eq_true, Bool.not_eq_false, List.length_map] at q1) <;> conv => whnf)
    · refine ⟨k' + m, by rw [← wrap64_id] <;> omega, ?_⟩; (conv => whnf)
      (split <;> rename_i q2 <;> (try simp only [decide_eq_true_eq, decide_eq_false_iff_not, Bool.not_eq_true', Bool.not_eq_false', Bool.not_eq_true, Bool.not_eq_false, List.length_map] at q2) <;> conv => whnf)
      · (split <;> rename_i q3 <;> (try simp only [decide_eq_true_eq, decide_eq_false_iff_not, Bool.not_eq_true', Bool.not_eq_false', Bool.not_eq_true, Bool.not_eq_false, List.length_map] at q3) <;> conv => whnf)
        · (split <;> rename_i q4 <;> (try simp only [decide_eq_true_eq, decide_eq_false_iff_not, Bool.not_eq_true', Bool.not_eq_false', Bool.not_eq_true, Bool.not_eq_false, List.length_map] at q4) <;> conv => whnf)
          · (split <;> rename_i q5 <;> (try simp only [decide_eq_true_eq, decide_eq_false_iff_not, Bool.not_eq_true', Bool.not_eq_false', Bool.not_eq_true, Bool.not_eq_false, List.length_map] at q5) <;> conv => whnf)
            · obtain ⟨n', rfl⟩ : ∃ n' : Nat, n = n' := ⟨n.toNat, by omega⟩
              refine ⟨_, _, shardSpec_c (k := k') (n := n') (by omega) (by omega), lendA, ?_⟩; (conv => whnf)
              refine ⟨close_bool ?_, trivial⟩
              rw [← hR]
              unfold Fr.right
              simp only [h1, Int.toNat_natCast]
              rw [Bool.eq_iff_iff]
              simp
              omega
            · refine ⟨close_bool (no (P := wh.size = 32) (fun e => ?_) (by omega)), trivial⟩
              obtain ⟨_, _, _, _, _, _, _, _, _, _, _, _, _, h10, _⟩ := hiff.1 e
              exact h10
          · refine ⟨close_bool (no (P := n ≤ 12000) (fun e => ?_) (by omega)), trivial⟩
            obtain ⟨_, _, _, n', _, _, _, h4, _, _, _, _, h9, _, _⟩ := hiff.1 e
            omega
        · refine ⟨close_bool (no (P := 0 ≤ n) (fun e => ?_) (by omega)), trivial⟩
          obtain ⟨_, _, _, n', _, _, _, h4, _, _, _, _, h9, _, _⟩ := hiff.1 e
          omega
      · refine ⟨close_bool (no (P := i < k' + m) (fun e => ?_) (by omega)), trivial⟩
        obtain ⟨_, _, _, n', h1, h2, h3, h4, _, _, _, h8, h9, _, _⟩ := hiff.1 e
        omega
    · refine ⟨close_bool (no (P := 0 ≤ i) (fun e => ?_) (by omega)), trivial⟩
      obtain ⟨_, _, _, n', h1, h2, h3, h4, _, _, _, h8, h9, _, _⟩ := hiff.1 e
      omega
  · rw [Bool.eq_false_iff.2 h1] at hc
    refine fun1_of_vc tb_ok mix (fn := Tryz.f109) Tryz.func109 rfl (by kernel_rfl) (by kernel_rfl) (by simp [Tryz.f109]) (by rfl) ?_
    (conv => whnf)
    refine ⟨_, _, hc, lendA, ?_⟩; (conv => whnf)
    refine ⟨close_bool (no (P := codeOk k m = true) (fun e => ?_) h1), trivial⟩
    unfold Fr.right at e
    simp only [Bool.and_eq_true] at e
    exact e.1.1.1.1
def numsE (t : ByteArray) (i : Nat) : List (List AV) := (List.range i).map fun j => eInt (valF t j)
theorem numsE_succ (t : ByteArray) (i : Nat) : numsE t (i + 1) = numsE t i ++ [eInt (valF t i)] := by rw [numsE, List.range_succ, List.map_append]; rfl
theorem l09Frame_c {t : ByteArray} (ht : t.size ≤ 20000) : ∃ F : Fr, (readOk t = true → F = readV t) ∧ Fun1 Tryz.prog 70 [.one (.lit (.string t))] (.tup [(true, F.enc), (false, [.lit (.bool (readOk t))])]) := by
  by_cases h1 : 1 ≤ t.size
  · by_cases hs : (byteAt t 0).toNat = 70
    · have hC : ∃ F : Fr, (goodF t 4 → posF t 4 + 64 ≤ t.size → F = frV t) ∧ (¬ (goodF t 4 ∧ posF t 4 + 64 ≤ t.size) → F = Fr.zero) := by
        by_cases hc : goodF t 4 ∧ posF t 4 + 64 ≤ t.size
        · exact ⟨frV t, fun _ _ => rfl, fun h => absurd hc h⟩
        · exact ⟨Fr.zero, fun h h' => absurd ⟨h, h'⟩ hc, fun _ => rfl⟩
      obtain ⟨F, hF1, hF2⟩ := hC
      refine ⟨F, fun hr => ?_, ?_⟩
      · by_cases hg : goodF t 4
        · by_cases hp : posF t 4 + 64 ≤ t.size
          · rw [hF1 hg hp, (read_eq h1 hs hg hp).1]
          · exfalso; rw [read_short h1 hg (by omega)] at hr; cases hr
        · exfalso
          have : ∃ i, i < 4 ∧ goodF t i ∧ (getN t (posF t i)).2.2 ≠ 0 := by
            have key : ∀ j, ¬ goodF t j → ∃ i, i < j ∧ goodF t i ∧ (getN t (posF t i)).2.2 ≠ 0 := fun j => by
              induction j with
              | zero => intro h; exact absurd (fun q hq => absurd hq (Nat.not_lt_zero q)) h
              | succ j ih =>
                intro h
                by_cases hj : goodF t j
                · exact ⟨j, by omega, hj, fun e => h (goodF_step hj e)⟩
                · obtain ⟨i, h1, h2⟩ := ih hj; exact ⟨i, by omega, h2⟩
            exact key 4 hg
          obtain ⟨i, hi, hgi, hb⟩ := this
          rw [read_num h1 hi hgi hb] at hr; cases hr
      obtain ⟨R, hR⟩ : ∃ R, readOk t = R := ⟨_, rfl⟩
      rw [hR]
      refine fun1_of_vc (E := tbO70) (tbF_ok _) mix (fn := Tryz.f70) Tryz.func70 rfl (by kernel_rfl) (by kernel_rfl) (by simp [Tryz.f70]) (by rfl) ?_
      (conv => whnf)
      (split <;> rename_i q0 <;> (try simp only [decide_eq_true_eq, decide_eq_false_iff_not, Bool.not_eq_true', Bool.not_eq_false', Bool.not_eq_true, Bool.not_eq_false, List.length_map] at q0) <;> conv => whnf)
      · exfalso; omega
      refine ⟨0, rfl, by omega, ?_⟩; (conv => whnf)
      have hB0 : (t.data.toList.getD 0 0).toNat = 70 := hs
      (split <;> rename_i q1 <;> (try simp only [decide_eq_true_eq, decide_eq_false_iff_not, Bool.not_eq_true', Bool.not_eq_false', Bool.not_eq_true, Bool.not_eq_false, List.length_map] at q1) <;> conv => whnf)
      · exfalso; omega
      refine ⟨LG (fun i : Nat => i ≤ 4 ∧ goodF t i) (fun i => 4 - i) (fun i => AS.of [(0, .one (.lit (.string t))), (2, .one (.ptr 32 0)), (3, .one (.lit (.bool false))), (4, .one (.ptr 64 0)), (5, .one (.loc 304 0 i)), (6, .one (vN (posF t i))), (7, .one (vN i))] [(32, .var [.lit (.int .i64 0), .lit (.int .i64 0), .lit (.int .i64 0), .lit (.int .i64 0), .lit (.string .empty), .lit (.string .empty)]), (64, .var [.lit (.int .i64 0), .lit (.int .i64 0), .lit (.int .i64 0), .lit (.int .i64 0), .lit (.string .empty), .lit (.string .empty)]), (304, .row true 1 (numsE t i))]),
        lg_init 0 ⟨by omega, fun q hq => absurd hq (Nat.not_lt_zero q)⟩ (weak_of allsA allsA rfl rfl), ?_⟩
      rintro σ j ⟨i, ⟨hi, hg⟩, rfl, rfl⟩
      have hpl := posF_le h1 hg
      have hnl : (numsE t i).length = i := by simp [numsE]
      refine ⟨_, Weak.refl _, ?_⟩
      (conv => whnf)
      (split <;> rename_i h <;> (try simp only [decide_eq_true_eq, decide_eq_false_iff_not, Bool.not_eq_true', Bool.not_eq_false', Bool.not_eq_true, Bool.not_eq_false, List.length_map] at h) <;> conv => whnf)
      · refine ⟨_, _, getSpec_c ht (by omega : posF t i ≤ 2000000), lendA, ?_⟩; (conv => whnf)
        (split <;> rename_i h2 <;> (try simp only [decide_eq_true_eq, decide_eq_false_iff_not, Bool.not_eq_true', Bool.not_eq_false', Bool.not_eq_true, Bool.not_eq_false, List.length_map] at h2) <;> conv => whnf)
        · have hz := hF2 fun e => absurd (e.1 i (by omega)) (by omega)
          rw [read_num h1 (by omega) hg (by omega)] at hR
          subst hz hR
          exact ⟨rfl, ⟨close_int rfl, close_int rfl, close_int rfl, close_int rfl, close_str rfl, close_str rfl, trivial⟩, rfl, ⟨close_bool rfl, trivial⟩, trivial⟩
        · have hg1 := goodF_step hg (by omega : (getN t (posF t i)).2.2 = 0)
          have hns := numsE_succ t i
          refine ⟨true, [eInt (valF t i)], ⟨rfl, by simp [chunk], rfl, rfl⟩, ?_⟩; (conv => whnf)
          refine ⟨_, laid_map (f := eInt) (fun _ => rfl) [valF t i], rfl, by rw [hnl], rfl, by rw [hnl]; simp [maxLen]; omega, by rw [hnl]; simp; omega, ?_⟩; (conv => whnf)
          (refine ⟨((i + 1 : Nat) : Int), by rw [← wrap64_id] <;> omega, ?_⟩; conv => whnf)
          exact lg_back (i + 1) ⟨by omega, hg1⟩ (by (try dsimp only); omega) (weak_of (all_cons rfl (all_cons rfl (all_cons rfl (all_cons rfl (all_cons (eq_loc rfl (by rw [hnl]; rfl)) (all_cons rfl (all_cons rfl all_nil))))))) (all_cons rfl (all_cons rfl (all_cons (eq_row rfl (by rw [hns]; rfl)) all_nil))) rfl rfl)
      · have h4 : i = 4 := by omega
        subst h4
        refine ⟨((posF t 4 + 64 : Nat) : Int), by rw [← wrap64_id] <;> omega, ?_⟩; (conv => whnf)
        (split <;> rename_i h3 <;> (try simp only [decide_eq_true_eq, decide_eq_false_iff_not, Bool.not_eq_true', Bool.not_eq_false', Bool.not_eq_true, Bool.not_eq_false, List.length_map] at h3) <;> conv => whnf)
        · have hz := hF2 fun e => absurd e.2 (by omega)
          rw [read_short h1 hg (by omega)] at hR
          subst hz hR
          exact ⟨rfl, ⟨close_int rfl, close_int rfl, close_int rfl, close_int rfl, close_str rfl, close_str rfl, trivial⟩, rfl, ⟨close_bool rfl, trivial⟩, trivial⟩
        · have hp : posF t 4 + 64 ≤ t.size := by omega
          have hz := hF1 hg hp
          have hre := (read_eq h1 hs hg hp).2
          subst hz
          have hfr := frRightS_c (frV t)
          have hd := l09Digest_c (t.extract 0 (posF t 4 + 32)) (frV t).text (by rw [ext_size t (by omega)]; omega) (by show (t.extract _ _).size ≤ _; rw [ext_size t (by omega)]; omega)
          refine ⟨0, rfl, by decide, ?_⟩; (conv => whnf)
          refine ⟨eInt (valF t 0), rfl, ?_⟩; (conv => whnf)
          refine ⟨1, rfl, by decide, ?_⟩; (conv => whnf)
          refine ⟨eInt (valF t 1), rfl, ?_⟩; (conv => whnf)
          refine ⟨2, rfl, by decide, ?_⟩; (conv => whnf)
          refine ⟨eInt (valF t 2), rfl, ?_⟩; (conv => whnf)
          refine ⟨3, rfl, by decide, ?_⟩; (conv => whnf)
          refine ⟨eInt (valF t 3), rfl, ?_⟩; (conv => whnf)
          refine ⟨((posF t 4 + 32 : Nat) : Int), by rw [← wrap64_id] <;> omega, ?_⟩; (conv => whnf)
          refine ⟨by simp only [Option.getD]; omega, by simp only [Option.getD]; omega, by simp only [Option.getD]; omega, ?_⟩; (conv => whnf)
          refine ⟨_, rfl, ?_⟩; (conv => whnf)
          refine ⟨((posF t 4 + 64 : Nat) : Int), by rw [← wrap64_id] <;> omega, ?_⟩; (conv => whnf)
          refine ⟨by simp only [Option.getD]; omega, by simp only [Option.getD]; omega, by simp only [Option.getD]; omega, ?_⟩; (conv => whnf)
          refine ⟨_, rfl, ?_⟩; (conv => whnf)
          cases hrt : (frV t).right with
          | false =>
            rw [hrt] at hfr hre
            rw [hR] at hre
            refine ⟨_, _, hfr, lendA, ?_⟩; (conv => whnf)
            subst hre
            exact ⟨rfl, ⟨close_int rfl, close_int rfl, close_int rfl, close_int rfl, close_str rfl, close_str rfl, trivial⟩, rfl, ⟨close_bool rfl, trivial⟩, trivial⟩
          | true =>
            rw [hrt] at hfr hre
            refine ⟨_, _, hfr, lendA, ?_⟩; (conv => whnf)
            refine ⟨((posF t 4 + 32 : Nat) : Int), by rw [← wrap64_id] <;> omega, ?_⟩; (conv => whnf)
            refine ⟨by simp only [Option.getD]; omega, by simp only [Option.getD]; omega, by simp only [Option.getD]; omega, ?_⟩; (conv => whnf)
            refine ⟨t.extract 0 (posF t 4 + 32), rfl, ?_⟩; (conv => whnf)
            refine ⟨((posF t 4 + 32 : Nat) : Int), by rw [← wrap64_id] <;> omega, ?_⟩; (conv => whnf)
            refine ⟨((posF t 4 + 64 : Nat) : Int), by rw [← wrap64_id] <;> omega, ?_⟩; (conv => whnf)
            refine ⟨by simp only [Option.getD]; omega, by simp only [Option.getD]; omega, by simp only [Option.getD]; omega, ?_⟩; (conv => whnf)
            refine ⟨t.extract (posF t 4 + 32) (posF t 4 + 64), rfl, ?_⟩; (conv => whnf)
            refine ⟨_, _, hd, lendA, ?_⟩; (conv => whnf)
            rw [hR, Bool.true_and] at hre
            exact ⟨rfl, ⟨close_int rfl, close_int rfl, close_int rfl, close_int rfl, close_str rfl, close_str rfl, trivial⟩, rfl, ⟨close_bool hre, trivial⟩, trivial⟩
    · refine ⟨Fr.zero, fun hr => (by rw [read_sign h1 hs] at hr; cases hr), ?_⟩
      rw [read_sign h1 hs]
      refine fun1_of_vc (E := tbO70) (tbF_ok _) mix (fn := Tryz.f70) Tryz.func70 rfl (by kernel_rfl) (by kernel_rfl) (by simp [Tryz.f70]) (by rfl) ?_
      (conv => whnf)
      (split <;> rename_i q0 <;> (try simp only [decide_eq_true_eq, decide_eq_false_iff_not, Bool.not_eq_true', Bool.not_eq_false', Bool.not_eq_true, Bool.not_eq_false, List.length_map] at q0) <;> conv => whnf)
      · exfalso; omega
      refine ⟨0, rfl, by omega, ?_⟩; (conv => whnf)
      have hB0 : (t.data.toList.getD 0 0).toNat ≠ 70 := hs
      (split <;> rename_i q1 <;> (try simp only [decide_eq_true_eq, decide_eq_false_iff_not, Bool.not_eq_true', Bool.not_eq_false', Bool.not_eq_true, Bool.not_eq_false, List.length_map] at q1) <;> conv => whnf)
      · exact ⟨rfl, ⟨close_int rfl, close_int rfl, close_int rfl, close_int rfl, close_str rfl, close_str rfl, trivial⟩, rfl, ⟨close_bool rfl, trivial⟩, trivial⟩
      · exfalso; omega
  · refine ⟨Fr.zero, fun hr => (by rw [read_empty (by omega)] at hr; cases hr), ?_⟩
    rw [read_empty (by omega)]
    refine fun1_of_vc (E := tbO70) (tbF_ok _) mix (fn := Tryz.f70) Tryz.func70 rfl (by kernel_rfl) (by kernel_rfl) (by simp [Tryz.f70]) (by rfl) ?_
    (conv => whnf)
    (split <;> rename_i q0 <;> (try simp only [decide_eq_true_eq, decide_eq_false_iff_not, Bool.not_eq_true', Bool.not_eq_false', Bool.not_eq_true, Bool.not_eq_false, List.length_map] at q0) <;> conv => whnf)
    · exact ⟨rfl, ⟨close_int rfl, close_int rfl, close_int rfl, close_int rfl, close_str rfl, close_str rfl, trivial⟩, rfl, ⟨close_bool rfl, trivial⟩, trivial⟩
    · exfalso; omega
end Go.Proofs.YthdejoipdgahiaaGreatDoor
namespace Go.Proofs.YthdejoipdgahiaaGreatDoor
open Go.RowKit
set_option linter.unusedSimpArgs false
set_option linter.unusedVariables false
set_option maxRecDepth 100000
set_option maxHeartbeats 8000000
theorem like_c (g f : Fr) : Fun1 Tryz.prog 72 [.agg g.enc, .agg f.enc] (.one (.lit (.bool (likeF f g)))) := by
  obtain ⟨k, m, i, n, wh, tx⟩ := g
  obtain ⟨k', m', i', n', wh', tx'⟩ := f
  dsimp only [Fr.enc, likeF]
  refine fun1_of_vc tb_ok mix (fn := Tryz.f72) Tryz.func72 rfl (by kernel_rfl) (by kernel_rfl) (by simp [Tryz.f72]) (by rfl) ?_
  (conv => whnf)
  (split <;> rename_i c1 <;> (try simp only [decide_eq_true_eq, decide_eq_false_iff_not, Bool.not_eq_true', Bool.not_eq_false', Bool.not_eq_true, Bool.not_eq_false, List.length_map] at c1) <;> conv => whnf)
  · exact ⟨close_bool (by rw [decide_eq_true c1, Bool.true_and]), trivial⟩
  · exact ⟨close_bool (by rw [decide_eq_false c1, Bool.false_and]), trivial⟩
def frS (fr : Nat → Option Fr) (i : Nat) : Fr := (fr i).getD Fr.zero
def hvS (fr : Nat → Option Fr) (i : Nat) : Bool := (fr i).isSome
def lookE (n : Nat) (fr : Nat → Option Fr) (files : Nat) (counts : List Bool) (text : ByteArray) (ok : Bool) : List AV :=
  [vN files, .row true 6 ((updL (frS fr) Fr.zero n n).map Fr.enc), .row true 1 ((updL (hvS fr) false n n).map bE), .row true 1 (counts.map bE), .lit (.string text), .lit (.bool ok)]
theorem try_c {k m : Nat} {ds : List AV} {fr : Nat → Option Fr} {files i : Nat} {counts : List Bool} {text : ByteArray} {ok : Bool} {dr : List (List AV)} (hk : 1 ≤ k ∧ k ≤ 8) (hm : m ≤ 6) (hgood : ∀ j g, fr j = some g → FrG k m g) {f : Fr} (hi : i < k + m) (hf : fr i = some f) :
    Fun1 Tryz.prog 71 [.agg [vN k, vN m, .row true 2 dr], .agg (lookE (k + m) fr files counts text ok), .one (vN i)] (.tup [(false, [.lit (.string (tryT k m fr f))]), (false, [.lit (.bool (tryB k m fr f))])]) := by
  have hG := hgood i f hf
  obtain ⟨n', hn1, hn2, hn3⟩ := hG.n
  have hsS := shO_size (k := k) hgood (f := f) (k + m)
  rw [hn1, Int.toNat_natCast] at hsS
  have hdec := decSpec_c (k := k) (m := m) (L := shN k n') (size := n') (l := shO (k + m) fr f) hk hm (shO_len _ _ _) (by omega) rfl hsS
  have hTe : decT k m (shN k n') n' (shO (k + m) fr f) = tryT k m fr f := by rw [tryT, hn1, Int.toNat_natCast]
  have hCe : decC k m (shO (k + m) fr f) = tryC k m fr f := rfl
  have hTs : (tryT k m fr f).size ≤ 20000 := by have := decT_size k m (shN k n') n' (shO (k + m) fr f); rw [hTe] at this; omega
  obtain ⟨n, hn⟩ : ∃ n, k + m = n := ⟨_, rfl⟩
  rw [hTe, hCe, hn] at hdec
  have hdig := digestSpec_c (tryT k m fr f) (by omega)
  rw [if_pos (by omega)] at hdig
  have hBd : tryB k m fr f = (decide (tryC k m fr f = 0) && decide (digF (tryT k m fr f) = f.whole)) := rfl
  have hfs : frS fr i = f := by rw [frS, hf]; rfl
  rw [hn] at hi ⊢
  obtain ⟨TT, hTT⟩ : ∃ x, tryT k m fr f = x := ⟨_, rfl⟩
  obtain ⟨CC, hCC⟩ : ∃ x, tryC k m fr f = x := ⟨_, rfl⟩
  obtain ⟨BB, hBB⟩ : ∃ x, tryB k m fr f = x := ⟨_, rfl⟩
  rw [hTT, hCC, hBB] at hBd
  rw [hTT, hCC] at hdec
  rw [hTT] at hdig
  rw [hTT, hBB]
  have hshS : ∀ w, (List.range (w + 1)).map (shI fr f) = (List.range w).map (shI fr f) ++ [shI fr f w] := fun w => range_succ_map _ w
  have hget : ((updL (frS fr) Fr.zero n n).map Fr.enc)[i]? = some f.enc := by rw [← hfs]; have := updA (f := frS fr) (d := Fr.zero) Fr.enc hi; rwa [Nat.zero_add] at this
  dsimp only [lookE]
  refine fun1_of_vc tb_ok mix (fn := Tryz.f71) Tryz.func71 rfl (by kernel_rfl) (by kernel_rfl) (by simp [Tryz.f71]) (by rfl) ?_
  (conv => whnf)
  refine ⟨LG (fun w : Nat => w ≤ n) (fun w => n - w) (fun w => AS.of [(2, .one (vN i)), (3, .one (.ptr 48 0)), (4, .one (.ptr 64 0)), (8, .one (.loc 192 0 w)), (9, .one (vN w))]
    [(48, .var [vN k, vN m, .row true 2 dr]), (64, .var (lookE n fr files counts text ok)), (192, .row true 2 (((List.range w).map (shI fr f)).map Sh.enc))]),
    lg_init 0 (by omega) (weak_of allsA allsA rfl rfl), ?_⟩
  rintro σ j ⟨w, hw, rfl, rfl⟩
  refine ⟨_, Weak.refl _, ?_⟩
  (conv => whnf)
  have hnn : ((updL (frS fr) Fr.zero n n).map Fr.enc).length = n := updN Fr.enc (Nat.le_refl _)
  have hnn2 : (updL (frS fr) Fr.zero n n).length = n := updL_len (Nat.le_refl _)
  (split <;> rename_i hb <;> (try simp only [decide_eq_true_eq, decide_eq_false_iff_not, Bool.not_eq_true', Bool.not_eq_false', Bool.not_eq_true, Bool.not_eq_false, List.length_map] at hb) <;> conv => whnf)
  · have hlw : w < n := by omega
    have gw : ((updL (frS fr) Fr.zero n n).map Fr.enc)[w]? = some (frS fr w).enc := by have := updA (f := frS fr) (d := Fr.zero) Fr.enc hlw; rwa [Nat.zero_add] at this
    have hw2 : ((updL (hvS fr) false n n).map bE)[w]? = some (bE (hvS fr w)) := by have := updA (f := hvS fr) (d := false) bE hlw; rwa [Nat.zero_add] at this
    cases hfw : fr w with
    | none =>
      have hv : hvS fr w = false := by rw [hvS, hfw]; rfl
      have hsv : shI fr f w = Sh.none := by rw [shI, hfw]
      rw [hv] at hw2
      refine ⟨w, rfl, _, hw2, ?_⟩; (conv => whnf)
      refine ⟨true, [Sh.enc (shI fr f w)], ⟨rfl, by simp [chunk], rfl, by rw [hsv]; rfl⟩, ?_⟩; (conv => whnf)
      refine ⟨_, laid_map (f := Sh.enc) (fun _ => rfl) [shI fr f w], rfl, by simp, rfl, by simp [maxLen]; omega, by simp; omega, ?_⟩; (conv => whnf)
      (refine ⟨((w + 1 : Nat) : Int), by rw [← wrap64_id] <;> omega, ?_⟩; conv => whnf)
      exact lg_back (w + 1) (by omega) (by (try dsimp only); omega) (weak_of (all_cons rfl (all_cons rfl (all_cons rfl (all_cons (eq_loc rfl (by simp)) (all_cons rfl all_nil))))) (all_cons rfl (all_cons rfl (all_cons (eq_row rfl (by rw [hshS, List.map_append])) all_nil))) rfl rfl)
    | some g =>
      have hv : hvS fr w = true := by rw [hvS, hfw]; rfl
      have hg : frS fr w = g := by rw [frS, hfw]; rfl
      rw [hv] at hw2
      rw [hg] at gw
      refine ⟨w, rfl, _, hw2, ?_⟩; (conv => whnf)
      refine ⟨w, rfl, _, gw, ?_⟩; (conv => whnf)
      refine ⟨i, rfl, _, hget, ?_⟩; (conv => whnf)
      refine ⟨_, _, like_c g f, lendA, ?_⟩; (conv => whnf)
      cases hlk : likeF f g with
      | true =>
        have hsv : shI fr f w = ⟨true, g.text⟩ := by rw [shI, hfw]; simp only [hlk, if_true]
        (conv => whnf)
        refine ⟨w, rfl, _, gw, ?_⟩; (conv => whnf)
        refine ⟨true, [Sh.enc (shI fr f w)], ⟨rfl, by simp [chunk], rfl, by rw [hsv]; rfl⟩, ?_⟩; (conv => whnf)
        refine ⟨_, laid_map (f := Sh.enc) (fun _ => rfl) [shI fr f w], rfl, by simp, rfl, by simp [maxLen]; omega, by simp; omega, ?_⟩; (conv => whnf)
        (refine ⟨((w + 1 : Nat) : Int), by rw [← wrap64_id] <;> omega, ?_⟩; conv => whnf)
        exact lg_back (w + 1) (by omega) (by (try dsimp only); omega) (weak_of (all_cons rfl (all_cons rfl (all_cons rfl (all_cons (eq_loc rfl (by simp)) (all_cons rfl all_nil))))) (all_cons rfl (all_cons rfl (all_cons (eq_row rfl (by rw [hshS, List.map_append])) all_nil))) rfl rfl)
      | false =>
        have hsv : shI fr f w = Sh.none := by rw [shI, hfw]; simp only [hlk]; rfl
        (conv => whnf)
        refine ⟨true, [Sh.enc (shI fr f w)], ⟨rfl, by simp [chunk], rfl, by rw [hsv]; rfl⟩, ?_⟩; (conv => whnf)
        refine ⟨_, laid_map (f := Sh.enc) (fun _ => rfl) [shI fr f w], rfl, by simp, rfl, by simp [maxLen]; omega, by simp; omega, ?_⟩; (conv => whnf)
        (refine ⟨((w + 1 : Nat) : Int), by rw [← wrap64_id] <;> omega, ?_⟩; conv => whnf)
        exact lg_back (w + 1) (by omega) (by (try dsimp only); omega) (weak_of (all_cons rfl (all_cons rfl (all_cons rfl (all_cons (eq_loc rfl (by simp)) (all_cons rfl all_nil))))) (all_cons rfl (all_cons rfl (all_cons (eq_row rfl (by rw [hshS, List.map_append])) all_nil))) rfl rfl)
  · have hwn : w = n := by omega
    subst hwn
    refine ⟨i, rfl, _, hget, ?_⟩; (conv => whnf)
    refine ⟨_, _, hdec, lends_cons (lend_one (la_lit rfl)) (lends_cons (lend_one (la_lit rfl)) (lends_cons (lend_one (la_int hn1.symm)) (lends_cons (lend_one (la_loc rfl rfl rfl (by simp) rfl)) lends_nil))), ?_⟩; (conv => whnf)
    (split <;> rename_i c3 <;> (try simp only [decide_eq_true_eq, decide_eq_false_iff_not, Bool.not_eq_true', Bool.not_eq_false', Bool.not_eq_true, Bool.not_eq_false, List.length_map] at c3) <;> conv => whnf)
    · refine ⟨_, _, hdig, lendA, ?_⟩; (conv => whnf)
      refine ⟨i, rfl, _, hget, ?_⟩; (conv => whnf)
      exact ⟨rfl, ⟨close_str rfl, trivial⟩, rfl, ⟨close_bool (by rw [hBd, decide_eq_true (by omega : CC = 0), Bool.true_and]), trivial⟩, trivial⟩
    · exact ⟨rfl, ⟨close_str rfl, trivial⟩, rfl, ⟨close_bool (by rw [hBd, decide_eq_false (by omega : ¬ CC = 0), Bool.false_and]), trivial⟩, trivial⟩
end Go.Proofs.YthdejoipdgahiaaGreatDoor
namespace Go.Proofs.YthdejoipdgahiaaGreatDoor
open Go.RowKit
set_option linter.unusedSimpArgs false
set_option linter.unusedVariables false
set_option maxRecDepth 100000
set_option maxHeartbeats 2000000
theorem stT_keep {k m : Nat} {fr : Nat → Option Fr} {i : Nat} {f : Fr} (h : stO k m fr i = some f) : ∀ d, stT k m fr (i + d) = stT k m fr i
  | 0 => rfl
  | d + 1 => by rw [← Nat.add_assoc, stT, stO_keep h d]; exact stT_keep h d
def oB (k m : Nat) (fr : Nat → Option Fr) (i : Nat) : Bool := (stO k m fr i).isSome
def cI (k m n : Nat) (fr : Nat → Option Fr) (i : Nat) : List Bool := match stO k m fr i with
  | some f => updL (goodI fr f) false n n
  | none => List.replicate n false
theorem cI_len (k m n : Nat) (fr : Nat → Option Fr) (i : Nat) : (cI k m n fr i).length = n := by
  unfold cI; split
  · exact updL_len (Nat.le_refl _)
  · simp
def filesN (ds : List DDrive) (name : ByteArray) (i : Nat) : Nat := ((List.range i).filter (thereO ds name)).length
theorem filesN_succ (ds : List DDrive) (name : ByteArray) (i : Nat) : filesN ds name (i + 1) = filesN ds name i + (if thereO ds name i = true then 1 else 0) := by
  unfold filesN
  rw [List.range_succ, List.filter_append, List.length_append]
  by_cases h : thereO ds name i = true
  · rw [if_pos h, List.filter_cons_of_pos h]; rfl
  · rw [if_neg h, List.filter_cons_of_neg h]; rfl
theorem filesN_le (ds : List DDrive) (name : ByteArray) (i : Nat) : filesN ds name i ≤ i := by
  have := List.length_filter_le (thereO ds name) (List.range i)
  simpa [filesN] using this
def lookR (k m : Nat) (ds : List DDrive) (name : ByteArray) : List AV := lookE (k + m) (frO k m ds name) (filesN ds name (k + m)) (cI k m (k + m) (frO k m ds name) (k + m)) (stT k m (frO k m ds name) (k + m)) (oB k m (frO k m ds name) (k + m))
theorem look_nb (k m : Nat) (ds : List DDrive) (name : ByteArray) : (T.agg (lookR k m ds name)).nb = true := by
  have h : ∀ l : List Bool, AV.nb (4 + 1) (.row true 1 (l.map bE)) = true := fun l => nb_map (n := 4) (fun y => rfl) _
  have h6 : ∀ l : List Fr, AV.nb (4 + 1) (.row true 6 (l.map Fr.enc)) = true := fun l => nb_map (n := 4) (fun y => rfl) _
  simp only [lookR, lookE, T.nb, List.all_cons, List.all_nil, h, h6]; rfl
theorem eq_varc {t : Option Blk} {x y : AV} {l : List AV} (h : t = some (.var (x :: l))) (e : x = y) : t = some (.var (y :: l)) := by rw [h, e]
theorem lookSpec_c {k m : Nat} {ds : List DDrive} {name : ByteArray} (hk : 1 ≤ k ∧ k ≤ 8) (hm : m ≤ 6) (hdl : ds.length = k + m) (hd : ∀ d ∈ ds, driveOk d = true) (hl : ∀ d ∈ ds, d.files.length ≤ 4294967296) (htx : ∀ d ∈ ds, ∀ f ∈ d.files, f.text.size ≤ 20000) :
    Fun1 Tryz.prog 41 [.agg (DArray.enc ⟨k, m, ds⟩), .one (.lit (.string name))] (.agg (lookR k m ds name)) := by
  have hnb := look_nb k m ds name
  have hR : lookR k m ds name = lookE (k + m) (frO k m ds name) (filesN ds name (k + m)) (cI k m (k + m) (frO k m ds name) (k + m)) (stT k m (frO k m ds name) (k + m)) (oB k m (frO k m ds name) (k + m)) := rfl
  obtain ⟨R, hRR⟩ : ∃ R, lookR k m ds name = R := ⟨_, rfl⟩
  rw [hRR] at hR hnb ⊢
  obtain ⟨fr, hfr⟩ : ∃ fr, frO k m ds name = fr := ⟨_, rfl⟩
  have hgood : ∀ j g, fr j = some g → FrG k m g ∧ isF k m ds name j = true ∧ g = frI ds name j := fun j g h => frO_good (by rw [hfr]; exact h)
  have hF0 : ∀ j, isF k m ds name j = false → fr j = none := fun j h => by rw [← hfr, frO, h]; rfl
  have hF1 : ∀ j, isF k m ds name j = true → fr j = some (frI ds name j) := fun j h => by rw [← hfr, frO, if_pos h]
  have htry : ∀ {files i : Nat} {counts : List Bool} {text : ByteArray} {ok : Bool} {dr : List (List AV)} {f : Fr}, i < k + m → fr i = some f → Fun1 Tryz.prog 71 [.agg [vN k, vN m, .row true 2 dr], .agg (lookE (k + m) fr files counts text ok), .one (vN i)] (.tup [(false, [.lit (.string (tryT k m fr f))]), (false, [.lit (.bool (tryB k m fr f))])]) :=
    fun hi hf => try_c (ds := []) hk hm (fun j g h => (hgood j g h).1) hi hf
  obtain ⟨n, hn⟩ : ∃ n, k + m = n := ⟨_, rfl⟩
  rw [hfr, hn] at hR
  rw [hn] at hdl htry
  have hlen : (List.map DDrive.enc (DArray.mk (k : Int) (m : Int) ds).drives).length = n := by rw [List.length_map]; exact hdl
  refine fun1_of_vc tb_ok mix (fn := Tryz.f41) Tryz.func41 rfl (by kernel_rfl) (by kernel_rfl) (by simp [Tryz.f41]) (by exact hnb) ?_
  (conv => whnf)
  refine ⟨n, by rw [hlen], by rw [hlen]; omega, by rw [hlen]; omega, by rw [hlen]; simp only [maxLen]; omega, ?_⟩; (conv => whnf)
  refine ⟨n, by rw [hlen], by rw [hlen]; omega, by rw [hlen]; omega, by rw [hlen]; simp only [maxLen]; omega, ?_⟩; (conv => whnf)
  refine ⟨n, by rw [hlen], by rw [hlen]; omega, by rw [hlen]; omega, by rw [hlen]; simp only [maxLen]; omega, ?_⟩; (conv => whnf)
  refine ⟨LG (fun i : Nat => i ≤ n) (fun i => n - i) (fun i => AS.of [(1, .one (.lit (.string name))), (2, .one (.ptr 32 0)), (4, .one (.ptr 64 0)), (5, .one (vN n)), (6, .one (.ptr 96 0)), (7, .one (vN i))]
    [(32, .var (DArray.enc ⟨k, m, ds⟩)), (64, .var [.lit (.int .i64 0), .lit (.slice none 0 0), .lit (.slice none 0 0), .lit (.slice none 0 0), .lit (.string .empty), .lit (.bool false)]), (96, .var [vN (filesN ds name i), .loc 272 0 n, .loc 304 0 n, .loc 336 0 n, .lit (.string .empty), .lit (.bool false)]), (272, .row true 6 ((updL (frS fr) Fr.zero n i).map Fr.enc)), (304, .row true 1 ((updL (hvS fr) false n i).map bE)), (336, .row true 1 ((List.replicate n false).map bE))]),
    lg_init 0 (by omega) ?_, ?_⟩
  · refine weak_of (all_cons rfl (all_cons rfl (all_cons rfl (all_cons (eq_int rfl (by rw [hlen])) (all_cons rfl (all_cons rfl all_nil)))))) (all_cons rfl (all_cons rfl (all_cons ?_ (all_cons (eq_row rfl ?_) (all_cons (eq_row rfl ?_) (all_cons (eq_row rfl ?_) all_nil)))))) rfl rfl
    · rfl
    · rw [updL_zero, List.map_replicate]; rfl
    · rw [updL_zero, List.map_replicate]; rfl
    · rw [List.map_replicate]; rfl
  rintro σ j ⟨i, hi, rfl, rfl⟩
  have hfl0 := filesN_le ds name i
  refine ⟨_, Weak.refl _, ?_⟩
  (conv => whnf)
  (split <;> rename_i hb <;> (try simp only [decide_eq_true_eq, decide_eq_false_iff_not, Bool.not_eq_true', Bool.not_eq_false', Bool.not_eq_true, Bool.not_eq_false, List.length_map] at hb) <;> conv => whnf)
  · have hlt' : i < n := by omega
    have hlt : i < ds.length := by omega
    have hdv := drvL_at hlt
    have hmem := List.getElem_mem hlt
    have hfi := l08Find_c ds[i] name (hl _ hmem)
    have hth0 : thereO ds name i = hasN ds[i].files name := by rw [thereO, hdv]
    refine ⟨i, rfl, _, at_map hlt, ?_⟩; (conv => whnf)
    refine ⟨_, _, hfi, lends_cons (lend_bor rfl rfl) (lends_cons (lend_one (la_lit rfl)) lends_nil), ?_⟩; (conv => whnf)
    cases hth : hasN ds[i].files name with
    | false =>
      rw [hth] at hth0
      have h0 := hF0 i (by rw [isF, hth0]; rfl)
      have h1 : frS fr i = Fr.zero := by rw [frS, h0]; rfl
      have h2 : hvS fr i = false := by rw [hvS, h0]; rfl
      have h3 : filesN ds name (i + 1) = filesN ds name i := by rw [filesN_succ, hth0]; rfl
      (split <;> rename_i hn0 <;> (try simp only [decide_eq_true_eq, decide_eq_false_iff_not, Bool.not_eq_true', Bool.not_eq_false', Bool.not_eq_true, Bool.not_eq_false, List.length_map] at hn0) <;> conv => whnf)
      · (refine ⟨((i + 1 : Nat) : Int), by rw [← wrap64_id] <;> omega, ?_⟩; conv => whnf)
        exact lg_back (i + 1) (by omega) (by (try dsimp only); omega) (weak_of allsA (all_cons rfl (all_cons rfl (all_cons (eq_varc rfl (by rw [h3])) (all_cons (eq_row rfl (by rw [updL_skip hlt' h1])) (all_cons (eq_row rfl (by rw [updL_skip hlt' h2])) (all_cons rfl all_nil)))))) rfl rfl)
      · exfalso
        have := findI_nonneg.1 (by omega : 0 ≤ findI ds[i].files name)
        rw [hth] at this; cases this
    | true =>
      obtain ⟨hfl, hfe, -⟩ := findI_eq (hd _ hmem) hth
      rw [hth] at hth0
      have htd := txtD_at hfl
      obtain ⟨⟨fk, fm, fi, fn, fw, ft⟩, hFr, hrd⟩ := l09Frame_c (t := (ds[i].files[findP ds[i].files name]'hfl).text) (htx _ hmem _ (List.getElem_mem hfl))
      dsimp only [Fr.enc] at hrd
      have hif : isF k m ds name i = (readOk (ds[i].files[findP ds[i].files name]'hfl).text && decide ((readFr (ds[i].files[findP ds[i].files name]'hfl).text).k = (k : Int)) && decide ((readFr (ds[i].files[findP ds[i].files name]'hfl).text).m = (m : Int)) && decide ((readFr (ds[i].files[findP ds[i].files name]'hfl).text).i = (i : Int))) := by rw [isF, hth0, hdv, htd]; rfl
      have hfI : frI ds name i = readFr (ds[i].files[findP ds[i].files name]'hfl).text := by rw [frI, if_pos hth0, hdv, htd]
      have h3 : filesN ds name (i + 1) = filesN ds name i + 1 := by rw [filesN_succ, if_pos hth0]
      (split <;> rename_i hn0 <;> (try simp only [decide_eq_true_eq, decide_eq_false_iff_not, Bool.not_eq_true', Bool.not_eq_false', Bool.not_eq_true, Bool.not_eq_false, List.length_map] at hn0) <;> conv => whnf)
      · exfalso; omega
      refine ⟨((filesN ds name i + 1 : Nat) : Int), by rw [← wrap64_id] <;> omega, ?_⟩; (conv => whnf)
      refine ⟨i, rfl, _, at_map hlt, ?_⟩; (conv => whnf)
      refine ⟨findP ds[i].files name, hfe, _, at_map hfl, ?_⟩; (conv => whnf)
      refine ⟨_, _, hrd, lends_cons (lend_one (la_lit rfl)) lends_nil, ?_⟩; (conv => whnf)
      cases hok : readOk (ds[i].files[findP ds[i].files name]'hfl).text with
      | false =>
        rw [hok] at hif
        (conv => whnf)
        have h0 := hF0 i (by rw [hif]; rfl)
        have h1 : frS fr i = Fr.zero := by rw [frS, h0]; rfl
        have h2 : hvS fr i = false := by rw [hvS, h0]; rfl
        (refine ⟨((i + 1 : Nat) : Int), by rw [← wrap64_id] <;> omega, ?_⟩; conv => whnf)
        exact lg_back (i + 1) (by omega) (by (try dsimp only); omega) (weak_of allsA (all_cons rfl (all_cons rfl (all_cons (eq_varc rfl (by rw [h3])) (all_cons (eq_row rfl (by rw [updL_skip hlt' h1])) (all_cons (eq_row rfl (by rw [updL_skip hlt' h2])) (all_cons rfl all_nil)))))) rfl rfl)
      | true =>
        have hFe : readFr (ds[i].files[findP ds[i].files name]'hfl).text = ⟨fk, fm, fi, fn, fw, ft⟩ := by rw [hFr hok, readFr, if_pos hok]
        rw [hok, hFe] at hif
        rw [hFe] at hfI
        simp only at hif
        (conv => whnf)
        (split <;> rename_i c1 <;> (try simp only [decide_eq_true_eq, decide_eq_false_iff_not, Bool.not_eq_true', Bool.not_eq_false', Bool.not_eq_true, Bool.not_eq_false, List.length_map] at c1) <;> conv => whnf)
        · (split <;> rename_i c2 <;> (try simp only [decide_eq_true_eq, decide_eq_false_iff_not, Bool.not_eq_true', Bool.not_eq_false', Bool.not_eq_true, Bool.not_eq_false, List.length_map] at c2) <;> conv => whnf)
          · by_cases c3 : fi = (i : Int)
            · have h0 := hF1 i (by rw [hif, decide_eq_true c1, decide_eq_true c2, decide_eq_true c3]; rfl)
              have h1 : frS fr i = ⟨fk, fm, fi, fn, fw, ft⟩ := by rw [frS, h0, hfI]; rfl
              have h2 : hvS fr i = true := by rw [hvS, h0]; rfl
              (split <;> rename_i c4 <;> (try simp only [decide_eq_true_eq, decide_eq_false_iff_not, Bool.not_eq_true', Bool.not_eq_false', Bool.not_eq_true, Bool.not_eq_false, List.length_map] at c4) <;> conv => whnf)
              · refine ⟨i, rfl, by omega, ?_⟩; (conv => whnf)
                refine ⟨_, updG (f := frS fr) Fr.enc hlt', ?_⟩; (conv => whnf)
                refine ⟨_, rfl, ?_⟩; (conv => whnf)
                refine ⟨i, rfl, by omega, ?_⟩; (conv => whnf)
                refine ⟨_, updG (f := hvS fr) bE hlt', ?_⟩; (conv => whnf)
                refine ⟨_, rfl, ?_⟩; (conv => whnf)
                (refine ⟨((i + 1 : Nat) : Int), by rw [← wrap64_id] <;> omega, ?_⟩; conv => whnf)
                exact lg_back (i + 1) (by omega) (by (try dsimp only); omega) (weak_of allsA (all_cons rfl (all_cons rfl (all_cons (eq_varc rfl (by rw [h3])) (all_cons (eq_row rfl (updS Fr.enc hlt' h1)) (all_cons (eq_row rfl (updS bE hlt' h2)) (all_cons rfl all_nil)))))) rfl rfl)
              · exfalso; exact c4 c3
            · (split <;> rename_i c4 <;> (try simp only [decide_eq_true_eq, decide_eq_false_iff_not, Bool.not_eq_true', Bool.not_eq_false', Bool.not_eq_true, Bool.not_eq_false, List.length_map] at c4) <;> conv => whnf)
              · exfalso; exact c3 c4
              · have h0 := hF0 i (by rw [hif]; rw [decide_eq_false c3]; simp)
                have h1 : frS fr i = Fr.zero := by rw [frS, h0]; rfl
                have h2 : hvS fr i = false := by rw [hvS, h0]; rfl
                (refine ⟨((i + 1 : Nat) : Int), by rw [← wrap64_id] <;> omega, ?_⟩; conv => whnf)
                exact lg_back (i + 1) (by omega) (by (try dsimp only); omega) (weak_of allsA (all_cons rfl (all_cons rfl (all_cons (eq_varc rfl (by rw [h3])) (all_cons (eq_row rfl (by rw [updL_skip hlt' h1])) (all_cons (eq_row rfl (by rw [updL_skip hlt' h2])) (all_cons rfl all_nil)))))) rfl rfl)
          · have h0 := hF0 i (by rw [hif]; rw [decide_eq_false c2]; simp)
            have h1 : frS fr i = Fr.zero := by rw [frS, h0]; rfl
            have h2 : hvS fr i = false := by rw [hvS, h0]; rfl
            (refine ⟨((i + 1 : Nat) : Int), by rw [← wrap64_id] <;> omega, ?_⟩; conv => whnf)
            exact lg_back (i + 1) (by omega) (by (try dsimp only); omega) (weak_of allsA (all_cons rfl (all_cons rfl (all_cons (eq_varc rfl (by rw [h3])) (all_cons (eq_row rfl (by rw [updL_skip hlt' h1])) (all_cons (eq_row rfl (by rw [updL_skip hlt' h2])) (all_cons rfl all_nil)))))) rfl rfl)
        · have h0 := hF0 i (by rw [hif]; rw [decide_eq_false c1]; simp)
          have h1 : frS fr i = Fr.zero := by rw [frS, h0]; rfl
          have h2 : hvS fr i = false := by rw [hvS, h0]; rfl
          (refine ⟨((i + 1 : Nat) : Int), by rw [← wrap64_id] <;> omega, ?_⟩; conv => whnf)
          exact lg_back (i + 1) (by omega) (by (try dsimp only); omega) (weak_of allsA (all_cons rfl (all_cons rfl (all_cons (eq_varc rfl (by rw [h3])) (all_cons (eq_row rfl (by rw [updL_skip hlt' h1])) (all_cons (eq_row rfl (by rw [updL_skip hlt' h2])) (all_cons rfl all_nil)))))) rfl rfl)
  · have hin : i = n := by omega
    have hcl : ∀ q, ((cI k m n fr q).map bE).length = n := fun q => by rw [List.length_map, cI_len]
    refine ⟨LG (fun i : Nat => i ≤ n) (fun i => n - i) (fun i => AS.of [(2, .one (.ptr 32 0)), (4, .one (.ptr 64 0)), (5, .one (vN n)), (6, .one (.ptr 96 0)), (11, .one (vN i))]
      [(32, .var (DArray.enc ⟨k, m, ds⟩)), (64, .var [.lit (.int .i64 0), .lit (.slice none 0 0), .lit (.slice none 0 0), .lit (.slice none 0 0), .lit (.string .empty), .lit (.bool false)]), (96, .var [vN (filesN ds name n), .loc 272 0 n, .loc 304 0 n, .loc 336 0 n, .lit (.string (stT k m fr i)), .lit (.bool (oB k m fr i))]), (272, .row true 6 ((updL (frS fr) Fr.zero n n).map Fr.enc)), (304, .row true 1 ((updL (hvS fr) false n n).map bE)), (336, .row true 1 ((cI k m n fr i).map bE))]),
      lg_init 0 (by omega) ?_, ?_⟩
    · subst hin
      exact weak_of allsA allsA rfl rfl
    clear hb
    rintro σ j ⟨q, hq, rfl, rfl⟩
    dsimp only
    have hc := hcl q
    cases hs : stO k m fr q with
    | some f =>
      have e1 := stO_keep hs (n - q)
      have e2 := stT_keep hs (n - q)
      rw [show q + (n - q) = n by omega] at e1 e2
      have e3 : cI k m n fr n = cI k m n fr q := by rw [cI, cI, e1, hs]
      have e4 : oB k m fr n = true := by rw [oB, e1]; rfl
      have e5 : oB k m fr q = true := by rw [oB, hs]; rfl
      rw [e2, e3, e4] at hR
      obtain ⟨TT, hTT⟩ : ∃ x, stT k m fr q = x := ⟨_, rfl⟩
      obtain ⟨CC, hCC⟩ : ∃ x, cI k m n fr q = x := ⟨_, rfl⟩
      rw [hCC] at hc
      rw [hTT, hCC] at hR
      rw [e5, hTT, hCC]
      subst hR
      refine ⟨_, Weak.refl _, ?_⟩
      (conv => whnf)
      (split <;> rename_i hb2 <;> (try simp only [decide_eq_true_eq, decide_eq_false_iff_not, Bool.not_eq_true', Bool.not_eq_false', Bool.not_eq_true, Bool.not_eq_false, List.length_map] at hb2) <;> conv => whnf)
      · exact ⟨close_int rfl, close_row rfl rfl (by rw [updN (f := frS fr) (d := Fr.zero) Fr.enc (Nat.le_refl _)]) rfl, close_row rfl rfl (by rw [updN (f := hvS fr) (d := false) bE (Nat.le_refl _)]) rfl, close_row rfl rfl hc.symm rfl, close_str rfl, close_bool rfl, trivial⟩
      · exact ⟨close_int rfl, close_row rfl rfl (by rw [updN (f := frS fr) (d := Fr.zero) Fr.enc (Nat.le_refl _)]) rfl, close_row rfl rfl (by rw [updN (f := hvS fr) (d := false) bE (Nat.le_refl _)]) rfl, close_row rfl rfl hc.symm rfl, close_str rfl, close_bool rfl, trivial⟩
    | none =>
      have e5 : oB k m fr q = false := by rw [oB, hs]; rfl
      have e6 : cI k m n fr q = List.replicate n false := by rw [cI, hs]
      have hcr : ((List.replicate n false).map bE).length = n := by simp
      have hre : q = n → R = lookE n fr (filesN ds name n) (List.replicate n false) (stT k m fr q) false := fun e => by subst e; rw [hR, e5, e6]
      have hgo : stO k m fr q = none := hs
      have hT1 : stT k m fr (q + 1) = match fr q with | some f => tryT k m fr f | none => stT k m fr q := by rw [stT, hs]; rfl
      have hS1 : stO k m fr (q + 1) = match fr q with | some f => if tryB k m fr f = true then some f else none | none => none := by rw [stO, hs]; rfl
      obtain ⟨T0, hT0⟩ : ∃ x, stT k m fr q = x := ⟨_, rfl⟩
      rw [hT0] at hre hT1
      rw [e5, e6, hT0]
      refine ⟨_, Weak.refl _, ?_⟩
      (conv => whnf)
      (split <;> rename_i hb2 <;> (try simp only [decide_eq_true_eq, decide_eq_false_iff_not, Bool.not_eq_true', Bool.not_eq_false', Bool.not_eq_true, Bool.not_eq_false, List.length_map] at hb2) <;> conv => whnf)
      · have hlq : q < n := by omega
        have gq : ((updL (frS fr) Fr.zero n n).map Fr.enc)[0 + q]? = some (frS fr q).enc := updA (f := frS fr) (d := Fr.zero) Fr.enc hlq
        have hq2 : ((updL (hvS fr) false n n).map bE)[0 + q]? = some (bE (hvS fr q)) := updA (f := hvS fr) (d := false) bE hlq
        cases hfq : fr q with
        | none =>
          have hv : hvS fr q = false := by rw [hvS, hfq]; rfl
          rw [hfq] at hT1 hS1
          simp only at hT1 hS1
          have hO1 : oB k m fr (q + 1) = false := by rw [oB, hS1]; rfl
          have hC1 : cI k m n fr (q + 1) = List.replicate n false := by rw [cI, hS1]
          rw [hv] at hq2
          refine ⟨q, rfl, hlq, ?_⟩; (conv => whnf)
          refine ⟨_, hq2, ?_⟩; (conv => whnf)
          (refine ⟨((q + 1 : Nat) : Int), by rw [← wrap64_id] <;> omega, ?_⟩; conv => whnf)
          exact lg_back (q + 1) (by omega) (by (try dsimp only); omega) (weak_of allsA (all_cons rfl (all_cons rfl (all_cons (by rw [hT1, hO1]; rfl) (all_cons rfl (all_cons rfl (all_cons (eq_row rfl (by rw [hC1])) all_nil)))))) rfl rfl)
        | some f =>
          have hv : hvS fr q = true := by rw [hvS, hfq]; rfl
          have hg : frS fr q = f := by rw [frS, hfq]; rfl
          rw [hfq] at hT1 hS1
          simp only at hT1 hS1
          rw [hv] at hq2
          rw [hg] at gq
          have htr := @htry (filesN ds name n) q (List.replicate n false) T0 false (ds.map DDrive.enc) f hlq hfq
          dsimp only [lookE] at htr
          obtain ⟨TT, hTT⟩ : ∃ x, tryT k m fr f = x := ⟨_, rfl⟩
          obtain ⟨BB, hBB⟩ : ∃ x, tryB k m fr f = x := ⟨_, rfl⟩
          rw [hTT, hBB] at htr
          rw [hTT] at hT1
          rw [hBB] at hS1
          refine ⟨q, rfl, hlq, ?_⟩; (conv => whnf)
          refine ⟨_, hq2, ?_⟩; (conv => whnf)
          refine ⟨_, _, htr, lends_cons (lend_bor rfl rfl) (lends_cons (lend_agg (all2_cons (la_lit rfl) (all2_cons (la_loc rfl rfl rfl (by rw [updN (f := frS fr) (d := Fr.zero) Fr.enc (Nat.le_refl _)]) rfl) (all2_cons (la_loc rfl rfl rfl (by rw [updN (f := hvS fr) (d := false) bE (Nat.le_refl _)]) rfl) (all2_cons (la_loc rfl rfl rfl hcr.symm rfl) (all2_cons (la_lit rfl) (all2_cons (la_lit rfl) all2_nil))))))) (lends_cons (lend_one (la_lit rfl)) lends_nil)), ?_⟩; (conv => whnf)
          cases BB with
          | false =>
            simp only [Bool.false_eq_true, if_false] at hS1
            have hO1 : oB k m fr (q + 1) = false := by rw [oB, hS1]; rfl
            have hC1 : cI k m n fr (q + 1) = List.replicate n false := by rw [cI, hS1]
            (conv => whnf)
            (refine ⟨((q + 1 : Nat) : Int), by rw [← wrap64_id] <;> omega, ?_⟩; conv => whnf)
            exact lg_back (q + 1) (by omega) (by (try dsimp only); omega) (weak_of allsA (all_cons rfl (all_cons rfl (all_cons (by rw [hT1, hO1]; rfl) (all_cons rfl (all_cons rfl (all_cons (eq_row rfl (by rw [hC1])) all_nil)))))) rfl rfl)
          | true =>
            simp only [if_true] at hS1
            have hO1 : oB k m fr (q + 1) = true := by rw [oB, hS1]; rfl
            have hC1 : cI k m n fr (q + 1) = updL (goodI fr f) false n n := by rw [cI, hS1]
            (conv => whnf)
            refine ⟨LG (fun w : Nat => w ≤ n) (fun w => n - w) (fun w => AS.of [(2, .one (.ptr 32 0)), (4, .one (.ptr 64 0)), (5, .one (vN n)), (6, .one (.ptr 96 0)), (11, .one (vN q)), (12, .one (vN w))]
              [(32, .var (DArray.enc ⟨k, m, ds⟩)), (64, .var [.lit (.int .i64 0), .lit (.slice none 0 0), .lit (.slice none 0 0), .lit (.slice none 0 0), .lit (.string .empty), .lit (.bool false)]), (96, .var [vN (filesN ds name n), .loc 272 0 n, .loc 304 0 n, .loc 336 0 n, .lit (.string TT), .lit (.bool true)]), (272, .row true 6 ((updL (frS fr) Fr.zero n n).map Fr.enc)), (304, .row true 1 ((updL (hvS fr) false n n).map bE)), (336, .row true 1 ((updL (goodI fr f) false n w).map bE))]),
              lg_init 0 (by omega) (weak_of allsA (all_cons rfl (all_cons rfl (all_cons rfl (all_cons rfl (all_cons rfl (all_cons (eq_row rfl (by rw [updL_zero])) all_nil)))))) rfl rfl), ?_⟩
            rintro σ j ⟨w, hw, rfl, rfl⟩
            refine ⟨_, Weak.refl _, ?_⟩
            (conv => whnf)
            (split <;> rename_i hb3 <;> (try simp only [decide_eq_true_eq, decide_eq_false_iff_not, Bool.not_eq_true', Bool.not_eq_false', Bool.not_eq_true, Bool.not_eq_false, List.length_map] at hb3) <;> conv => whnf)
            · have hlw : w < n := by omega
              have gw : ((updL (frS fr) Fr.zero n n).map Fr.enc)[0 + w]? = some (frS fr w).enc := updA (f := frS fr) (d := Fr.zero) Fr.enc hlw
              have hw2 : ((updL (hvS fr) false n n).map bE)[0 + w]? = some (bE (hvS fr w)) := updA (f := hvS fr) (d := false) bE hlw
              cases hfw : fr w with
              | none =>
                have hv2 : hvS fr w = false := by rw [hvS, hfw]; rfl
                have hgi : goodI fr f w = false := by rw [goodI, hfw]
                rw [hv2] at hw2
                refine ⟨w, rfl, hlw, ?_⟩; (conv => whnf)
                refine ⟨_, hw2, ?_⟩; (conv => whnf)
                refine ⟨w, rfl, hlw, ?_⟩; (conv => whnf)
                refine ⟨_, updG (f := goodI fr f) bE hlw, ?_⟩; (conv => whnf)
                refine ⟨_, rfl, ?_⟩; (conv => whnf)
                (refine ⟨((w + 1 : Nat) : Int), by rw [← wrap64_id] <;> omega, ?_⟩; conv => whnf)
                exact lg_back (w + 1) (by omega) (by (try dsimp only); omega) (weak_of allsA (all_cons rfl (all_cons rfl (all_cons rfl (all_cons rfl (all_cons rfl (all_cons (eq_row rfl (updS bE hlw hgi)) all_nil)))))) rfl rfl)
              | some g =>
                have hv2 : hvS fr w = true := by rw [hvS, hfw]; rfl
                have hg2 : frS fr w = g := by rw [frS, hfw]; rfl
                have hgi : goodI fr f w = likeF f g := by rw [goodI, hfw]
                rw [hv2] at hw2
                rw [hg2] at gw
                refine ⟨w, rfl, hlw, ?_⟩; (conv => whnf)
                refine ⟨_, hw2, ?_⟩; (conv => whnf)
                refine ⟨w, rfl, hlw, ?_⟩; (conv => whnf)
                refine ⟨_, gw, ?_⟩; (conv => whnf)
                refine ⟨q, rfl, hlq, ?_⟩; (conv => whnf)
                refine ⟨_, gq, ?_⟩; (conv => whnf)
                refine ⟨_, _, like_c g f, lendA, ?_⟩; (conv => whnf)
                refine ⟨w, rfl, hlw, ?_⟩; (conv => whnf)
                refine ⟨_, updG (f := goodI fr f) bE hlw, ?_⟩; (conv => whnf)
                refine ⟨_, rfl, ?_⟩; (conv => whnf)
                (refine ⟨((w + 1 : Nat) : Int), by rw [← wrap64_id] <;> omega, ?_⟩; conv => whnf)
                exact lg_back (w + 1) (by omega) (by (try dsimp only); omega) (weak_of allsA (all_cons rfl (all_cons rfl (all_cons rfl (all_cons rfl (all_cons rfl (all_cons (eq_row rfl (updS bE hlw hgi)) all_nil)))))) rfl rfl)
            · have hwn : w = n := by omega
              subst hwn
              (refine ⟨((q + 1 : Nat) : Int), by rw [← wrap64_id] <;> omega, ?_⟩; conv => whnf)
              exact lg_back (q + 1) (by omega) (by (try dsimp only); omega) (weak_of allsA (all_cons rfl (all_cons rfl (all_cons (by rw [hT1, hO1]; rfl) (all_cons rfl (all_cons rfl (all_cons (eq_row rfl (by rw [hC1])) all_nil)))))) rfl rfl)
      · rw [hre (by omega)]
        exact ⟨close_int rfl, close_row rfl rfl (by rw [updN (f := frS fr) (d := Fr.zero) Fr.enc (Nat.le_refl _)]) rfl, close_row rfl rfl (by rw [updN (f := hvS fr) (d := false) bE (Nat.le_refl _)]) rfl, close_row rfl rfl hcr.symm rfl, close_str rfl, close_bool rfl, trivial⟩
end Go.Proofs.YthdejoipdgahiaaGreatDoor
namespace Go.Proofs.YthdejoipdgahiaaGreatDoor
open Go.RowKit
set_option linter.unusedSimpArgs false
set_option linter.unusedVariables false
set_option maxRecDepth 100000
set_option maxHeartbeats 4000000
def wrStep (i : Nat) (file fr : ByteArray) : DStep := ⟨(i : Nat), ⟨1, file, .empty, fr⟩⟩
def syStep (i : Nat) (file : ByteArray) : DStep := ⟨(i : Nat), ⟨2, file, .empty, .empty⟩⟩
def rnStep (i : Nat) (file name : ByteArray) : DStep := ⟨(i : Nat), ⟨3, file, name, .empty⟩⟩
def wrS (k m n : Nat) (file whole shard : ByteArray) (i : Nat) (d : DDrive) : List DStep :=
  (if hasN d.files file = true then [rmStep i file] else []) ++ [wrStep i file (frameN k m i n whole shard), syStep i file]
theorem wrS_len (k m n : Nat) (file whole shard : ByteArray) (i : Nat) (d : DDrive) : (wrS k m n file whole shard i d).length ≤ 3 := by
  unfold wrS; split <;> simp
theorem writeImpl_c {k m i : Nat} {ds : List DDrive} {file text whole shard : ByteArray} (hk : k ≤ 8) (hm : m ≤ 6) (hi : i < ds.length) (hi2 : i ≤ 100) (hd : driveOk ds[i] = true) (hl : ds[i].files.length ≤ 4294967296) (hf : file.size ≤ 100000) (ht : text.size ≤ 20000) (hw : whole.size ≤ 100000) (hs : shard.size ≤ 100000) :
    Fun1 Tryz.prog 56 [.agg (DArray.enc ⟨k, m, ds⟩), .one (vN i), .one (.lit (.string file)), .one (.lit (.string text)), .one (.lit (.string whole)), .one (.lit (.string shard))]
      (.one (.row true 5 ((wrS k m text.size file whole shard i ds[i]).map DStep.enc))) := by
  have cF := frameImpl_c (k := k) (m := m) (i := i) (n := text.size) (whole := whole) (text := shard) (by omega) (by omega) (by omega) (by omega) hw hs
  refine fun1_of_vc tb_ok mix (fn := Tryz.f56) Tryz.func56 rfl (by kernel_rfl) (by kernel_rfl) (by simp [Tryz.f56]) (by show AV.nb (4 + 1) _ = true; exact nb_map (n := 4) (fun y => DStep.enc_nbn 4 y) _) ?_
  (conv => whnf)
  refine ⟨i, rfl, _, at_map hi, ?_⟩; (conv => whnf)
  refine ⟨_, _, has_c ds[i] hd file hl, lendA, ?_⟩; (conv => whnf)
  (split <;> rename_i h <;> (try simp only [decide_eq_true_eq, decide_eq_false_iff_not, Bool.not_eq_true', Bool.not_eq_false', Bool.not_eq_true, Bool.not_eq_false, List.length_map] at h) <;> conv => whnf)
  · have hr : wrS k m text.size file whole shard i ds[i] = [rmStep i file, wrStep i file (frameN k m i text.size whole shard), syStep i file] := by rw [wrS, if_pos h]; rfl
    rw [hr]
    refine ⟨true, [(rmStep i file).enc], ⟨rfl, by simp [chunk], rfl, rfl⟩, ?_⟩; (conv => whnf)
    refine ⟨_, rfl, rfl, by simp [maxLen], by simp, ?_⟩; (conv => whnf)
    refine ⟨_, _, long_c text, lendA, ?_⟩; (conv => whnf)
    refine ⟨_, _, cF, lendA, ?_⟩; (conv => whnf)
    refine ⟨true, [(wrStep i file (frameN k m i text.size whole shard)).enc, (syStep i file).enc], ⟨rfl, by simp [chunk], rfl, rfl⟩, ?_⟩; (conv => whnf)
    refine ⟨_, rfl, rfl, by simp [chunk, laid], rfl, by simp [maxLen, chunk, laid], by simp [chunk, laid], ?_⟩; (conv => whnf)
    exact ⟨close_row rfl rfl rfl rfl, trivial⟩
  · have hr : wrS k m text.size file whole shard i ds[i] = [wrStep i file (frameN k m i text.size whole shard), syStep i file] := by rw [wrS, if_neg (by simp [h])]; rfl
    rw [hr]
    refine ⟨_, _, long_c text, lendA, ?_⟩; (conv => whnf)
    refine ⟨_, _, cF, lendA, ?_⟩; (conv => whnf)
    refine ⟨true, [(wrStep i file (frameN k m i text.size whole shard)).enc, (syStep i file).enc], ⟨rfl, by simp [chunk], rfl, rfl⟩, ?_⟩; (conv => whnf)
    refine ⟨_, rfl, rfl, by simp [maxLen], by simp, ?_⟩; (conv => whnf)
    exact ⟨close_row rfl rfl rfl rfl, trivial⟩
theorem writeSpec_c {k m i tag : Nat} {ds : List DDrive} {name text : ByteArray} {shards : List ByteArray} (hk : 1 ≤ k ∧ k ≤ 8) (hm : m ≤ 6) (hi : i < ds.length) (hi2 : i < k + m) (hl : ds[i].files.length ≤ 4294967296) (htag : tag ≤ 9) (hn : name.size ≤ 90000) (ht : text.size ≤ 12000)
    (hsi : i < shards.length) (hs : shards[i].size = shN k text.size) :
    Fun1 Tryz.prog 43 [.agg (DArray.enc ⟨k, m, ds⟩), .one (vN tag), .one (.lit (.string name)), .one (.lit (.string text)), .one (.row true 1 (shards.map eStr)), .one (vN i)]
      (.one (.row true 5 ((wrS k m text.size (tagN tag name) (digF text) shards[i] i ds[i]).map DStep.enc))) := by
  have cF := frameSpec_c (k := k) (m := m) (i := i) (n := text.size) (whole := digF text) (text := shards[i]) hk hm hi2 ht (digF_size text) hs
  have cD := digestSpec_c text (by omega)
  rw [if_pos (by omega)] at cD
  obtain ⟨file, hfile⟩ : ∃ f, tagN tag name = f := ⟨_, rfl⟩
  have cT := temp_c (name := name) htag (by omega)
  rw [hfile] at cT ⊢
  obtain ⟨whole, hwh⟩ : ∃ f, digF text = f := ⟨_, rfl⟩
  rw [hwh] at cF cD ⊢
  obtain ⟨shard, hsh⟩ : ∃ f, shards[i] = f := ⟨_, rfl⟩
  have hat : (shards.map eStr)[i]? = some (eStr shard) := by rw [← hsh]; exact at_map hsi
  rw [hsh] at cF ⊢
  refine fun1_of_vc tb_ok mix (fn := Tryz.f43) Tryz.func43 rfl (by kernel_rfl) (by kernel_rfl) (by simp [Tryz.f43]) (by show AV.nb (4 + 1) _ = true; exact nb_map (n := 4) (fun y => DStep.enc_nbn 4 y) _) ?_
  (conv => whnf)
  refine ⟨_, _, cT, lendA, ?_⟩; (conv => whnf)
  refine ⟨i, rfl, _, at_map hi, ?_⟩; (conv => whnf)
  refine ⟨_, _, l08Find_c ds[i] file hl, lendA, ?_⟩; (conv => whnf)
  (split <;> rename_i h <;> (try simp only [decide_eq_true_eq, decide_eq_false_iff_not, Bool.not_eq_true', Bool.not_eq_false', Bool.not_eq_true, Bool.not_eq_false, List.length_map] at h) <;> conv => whnf)
  · have hr : wrS k m text.size file whole shard i ds[i] = [rmStep i file, wrStep i file (frameN k m i text.size whole shard), syStep i file] := by rw [wrS, if_pos (findI_nonneg.1 h)]; rfl
    rw [hr]
    refine ⟨true, [(rmStep i file).enc], ⟨rfl, by simp [chunk], rfl, rfl⟩, ?_⟩; (conv => whnf)
    refine ⟨_, rfl, rfl, by simp [chunk, laid], rfl, by simp [maxLen, chunk, laid], by simp [chunk, laid], ?_⟩; (conv => whnf)
    refine ⟨_, _, cD, lendA, ?_⟩; (conv => whnf)
    refine ⟨i, rfl, _, hat, ?_⟩; (conv => whnf)
    refine ⟨_, _, cF, lendA, ?_⟩; (conv => whnf)
    refine ⟨true, [(wrStep i file (frameN k m i text.size whole shard)).enc], ⟨rfl, by simp [chunk], rfl, rfl⟩, ?_⟩; (conv => whnf)
    refine ⟨_, rfl, rfl, by simp [chunk, laid], rfl, by simp [maxLen, chunk, laid], by simp [chunk, laid], ?_⟩; (conv => whnf)
    refine ⟨true, [(syStep i file).enc], ⟨rfl, by simp [chunk], rfl, rfl⟩, ?_⟩; (conv => whnf)
    refine ⟨_, rfl, rfl, by simp [chunk, laid], rfl, by simp [maxLen, chunk, laid], by simp [chunk, laid], ?_⟩; (conv => whnf)
    exact ⟨close_row rfl rfl rfl rfl, trivial⟩
  · have hr : wrS k m text.size file whole shard i ds[i] = [wrStep i file (frameN k m i text.size whole shard), syStep i file] := by rw [wrS, if_neg (fun e => h (findI_nonneg.2 e))]; rfl
    rw [hr]
    refine ⟨_, _, cD, lendA, ?_⟩; (conv => whnf)
    refine ⟨i, rfl, _, hat, ?_⟩; (conv => whnf)
    refine ⟨_, _, cF, lendA, ?_⟩; (conv => whnf)
    refine ⟨true, [(wrStep i file (frameN k m i text.size whole shard)).enc], ⟨rfl, by simp [chunk], rfl, rfl⟩, ?_⟩; (conv => whnf)
    refine ⟨_, rfl, rfl, by simp [chunk, laid], rfl, by simp [maxLen, chunk, laid], by simp [chunk, laid], ?_⟩; (conv => whnf)
    refine ⟨true, [(syStep i file).enc], ⟨rfl, by simp [chunk], rfl, rfl⟩, ?_⟩; (conv => whnf)
    refine ⟨_, rfl, rfl, by simp [chunk, laid], rfl, by simp [maxLen, chunk, laid], by simp [chunk, laid], ?_⟩; (conv => whnf)
    exact ⟨close_row rfl rfl rfl rfl, trivial⟩
theorem rename_c {tag i : Nat} {name : ByteArray} (htag : tag ≤ 9) (hn : name.size ≤ 90000) : Fun1 Tryz.prog 44 [.one (vN tag), .one (.lit (.string name)), .one (vN i)] (.agg (rnStep i (tagN tag name) name).enc) := by
  refine fun1_of_vc tb_ok mix (fn := Tryz.f44) Tryz.func44 rfl (by kernel_rfl) (by kernel_rfl) (by simp [Tryz.f44]) (by rfl) ?_
  (conv => whnf)
  refine ⟨_, _, temp_c (name := name) htag (by omega), lendA, ?_⟩; (conv => whnf)
  exact ⟨close_int rfl, close_int rfl, close_str rfl, close_str rfl, close_str rfl, trivial⟩
end Go.Proofs.YthdejoipdgahiaaGreatDoor
namespace Go.Proofs.YthdejoipdgahiaaGreatDoor
open Go.RowKit
set_option linter.unusedSimpArgs false
set_option linter.unusedVariables false
set_option maxRecDepth 100000
set_option maxHeartbeats 4000000
theorem encN_len (k m : Nat) (t : ByteArray) : (encN k m t).length = k + m := by simp [encN, combN]
theorem encN_size {k m : Nat} {t : ByteArray} : ∀ x ∈ encN k m t, x.size = shN k t.size := by
  intro x hx
  obtain ⟨i, _, rfl⟩ := List.mem_map.1 hx
  rw [txtOf_size, lineN_len]
end Go.Proofs.YthdejoipdgahiaaGreatDoor
namespace Go.Proofs.YthdejoipdgahiaaGreatDoor
open Go.RowKit
set_option linter.unusedSimpArgs false
set_option linter.unusedVariables false
set_option maxRecDepth 100000
set_option maxHeartbeats 4000000
def mendF (k m n : Nat) (file whole name : ByteArray) (sh : List ByteArray) (g : Nat → Bool) (i : Nat) (d : DDrive) : List DStep := if g i = true then [] else wrS k m n file whole (sh.getD i .empty) i d ++ [rnStep i file name]
theorem mendF_len (k m n : Nat) (file whole name : ByteArray) (sh : List ByteArray) (g : Nat → Bool) (i : Nat) (d : DDrive) : (mendF k m n file whole name sh g i d).length ≤ 4 := by
  unfold mendF
  split
  · simp
  · have := wrS_len k m n file whole (sh.getD i .empty) i d
    rw [List.length_append, List.length_singleton]; omega
theorem sum_four {α : Type} (l : List α) : (l.map fun _ => 4).sum = 4 * l.length := by induction l with | nil => rfl | cons x l ih => simp only [List.map_cons, List.sum_cons, List.length_cons, ih]; omega
def mendL (k m : Nat) (ds : List DDrive) (tag : Nat) (name : ByteArray) : List DStep :=
  match stO k m (frO k m ds name) (k + m) with
  | some f => accI (mendF k m (tryT k m (frO k m ds name) f).size (tagN tag name) (digF (tryT k m (frO k m ds name) f)) name (encN k m (tryT k m (frO k m ds name) f)) (goodI (frO k m ds name) f)) 0 ds
  | none => []
theorem steps_nb (l : List DStep) : (T.one (.row true 5 (l.map DStep.enc))).nb = true := by
  show AV.nb (4 + 1) _ = true
  exact nb_map (n := 4) (fun y => DStep.enc_nbn 4 y) _
theorem mendImpl_c {k m tag : Nat} {ds : List DDrive} {name : ByteArray} (hk : 1 ≤ k ∧ k ≤ 8) (hm : m ≤ 6) (hdl : ds.length = k + m) (hd : ∀ d ∈ ds, driveOk d = true) (hl : ∀ d ∈ ds, d.files.length ≤ 4294967296) (htx : ∀ d ∈ ds, ∀ f ∈ d.files, f.text.size ≤ 20000) (htag : tag ≤ 9) (hn : name.size ≤ 90000) :
    Fun1 Tryz.prog 26 [.agg (DArray.enc ⟨k, m, ds⟩), .one (vN tag), .one (.lit (.string name))] (.one (.row true 5 ((mendL k m ds tag name).map DStep.enc))) := by
  have hO := objImpl_c hk hm hdl hd hl htx (name := name)
  have hgood : ∀ j g, frO k m ds name j = some g → FrG k m g := fun j g h => (frO_good h).1
  unfold mendL
  unfold objE at hO
  obtain ⟨fr, hfr⟩ : ∃ fr, frO k m ds name = fr := ⟨_, rfl⟩
  rw [hfr] at hO hgood ⊢
  have hst : ∀ f, stO k m fr (k + m) = some f → _ := fun f h => stO_mem h
  cases hs : stO k m fr (k + m) with
  | none =>
    rw [hs] at hO
    refine fun1_of_vc tb_ok mix (fn := Tryz.f26) Tryz.func26 rfl (by kernel_rfl) (by kernel_rfl) (by simp [Tryz.f26]) (by exact steps_nb _) ?_
    (conv => whnf)
    refine ⟨_, _, hO, lends_cons (lend_bor rfl rfl) (lends_cons (lend_one (la_lit rfl)) lends_nil), ?_⟩; (conv => whnf)
    exact ⟨close_nil rfl, trivial⟩
  | some f =>
    obtain ⟨j0, -, hfj, hb⟩ := hst f hs
    obtain ⟨n', hn1, hn2, -⟩ := (hgood j0 f hfj).n
    have hTs : (tryT k m fr f).size ≤ 12000 := by
      have := decT_size k m (shN k f.n.toNat) f.n.toNat (shO (k + m) fr f)
      rw [hn1, Int.toNat_natCast] at this
      have e : tryT k m fr f = decT k m (shN k n') n' (shO (k + m) fr f) := by rw [tryT, hn1, Int.toNat_natCast]
      rw [e]; omega
    have hwh : digF (tryT k m fr f) = f.whole := by
      unfold tryB at hb
      simp only [Bool.and_eq_true, decide_eq_true_eq] at hb
      exact hb.2
    rw [hs] at hO
    simp only at hO ⊢
    obtain ⟨text, htext⟩ : ∃ x, tryT k m fr f = x := ⟨_, rfl⟩
    rw [htext] at hO hTs hwh
    rw [htext]
    have cT := tagImpl_c (name := name) htag (by omega)
    have hfs := tagN_size tag name
    have cE := encImpl_c hk hm (by omega : text.size ≤ 20000)
    have hb0 := shN_bounds (size := text.size) hk.1
    have hel := encN_len k m text
    have hes := @encN_size k m text
    have hws := digF_size text
    rw [← hwh] at hO
    obtain ⟨file, hfile⟩ : ∃ x, tagN tag name = x := ⟨_, rfl⟩
    obtain ⟨whole, hwhole⟩ : ∃ x, digF text = x := ⟨_, rfl⟩
    obtain ⟨sh, hsh⟩ : ∃ x, encN k m text = x := ⟨_, rfl⟩
    rw [hfile] at cT hfs
    rw [hwhole] at hO hws
    rw [hsh] at cE hel hes
    rw [hfile, hwhole, hsh]
    obtain ⟨sz, hsz⟩ : ∃ x, text.size = x := ⟨_, rfl⟩
    rw [hsz]
    obtain ⟨F, hF⟩ : ∃ F, mendF k m sz file whole name sh (goodI fr f) = F := ⟨_, rfl⟩
    have hFl : ∀ i d, (F i d).length ≤ 4 := fun i d => by rw [← hF]; exact mendF_len _ _ _ _ _ _ _ _ _ _
    rw [hF]
    have hal : ∀ i, (accI F 0 (ds.take i)).length ≤ 56 := fun i => by
      have := accI_len_le (f := F) (g := fun _ => 4) hFl ds i
      rw [sum_four] at this; omega
    refine fun1_of_vc tb_ok mix (fn := Tryz.f26) Tryz.func26 rfl (by kernel_rfl) (by kernel_rfl) (by simp [Tryz.f26]) (by exact steps_nb _) ?_
    (conv => whnf)
    refine ⟨_, _, hO, lends_cons (lend_bor rfl rfl) (lends_cons (lend_one (la_lit rfl)) lends_nil), ?_⟩; (conv => whnf)
    refine ⟨_, _, cT, lendA, ?_⟩; (conv => whnf)
    refine ⟨_, _, cE, lendA, ?_⟩; (conv => whnf)
    have hu1 := updN (f := thereO ds name) (d := false) (n := k + m) bE (Nat.le_refl _)
    have hu2 := updN (f := goodI fr f) (d := false) (n := k + m) bE (Nat.le_refl _)
    refine ⟨LG (fun i : Nat => i ≤ k + m) (fun i => k + m - i) (fun i => AS.of [(2, .one (.lit (.string name))), (3, .one (.ptr 48 0)), (7, .one (.ptr 112 0)), (8, .one (.lit (.string file))), (9, .one (.loc 800 0 (accI F 0 (ds.take i)).length)), (27, .one (.loc 432 0 (k + m))), (28, .one (vN (k + m : Nat))), (29, .one (vN i))]
      [(48, .var (DArray.enc ⟨k, m, ds⟩)), (112, .var [.loc 224 0 (k + m), .loc 225 0 (k + m), .lit (.string whole), .lit (.string text), .lit (.bool true)]), (224, .row true 1 ((updL (thereO ds name) false (k + m) (k + m)).map bE)), (225, .row true 1 ((updL (goodI fr f) false (k + m) (k + m)).map bE)), (432, .row true 1 (sh.map eStr)), (800, .row true 5 ((accI F 0 (ds.take i)).map DStep.enc))]),
      lg_init 0 (by omega) (weak_nil 9 800 5 rfl rfl (weak_of (all_cons rfl (all_cons rfl (all_cons rfl (all_cons rfl (all_cons rfl (all_cons (eq_loc rfl (by rw [List.length_map, hel])) (all_cons (eq_int rfl (by rw [List.length_map, hel])) (all_cons rfl all_nil)))))))) (all_cons rfl (all_cons ?_ (all_cons rfl (all_cons rfl (all_cons rfl (all_cons rfl all_nil)))))) rfl rfl)), ?_⟩
    · show some (Blk.var [.loc 224 0 ((updL (thereO ds name) false (k + m) (k + m)).map bE).length, .loc 225 0 ((updL (goodI fr f) false (k + m) (k + m)).map bE).length, .lit (.string whole), .lit (.string text), .lit (.bool true)]) = _
      rw [hu1, hu2]
    rintro σ j ⟨i, hi, rfl, rfl⟩
    have hai := hal i
    refine ⟨_, Weak.refl _, ?_⟩
    (conv => whnf)
    (split <;> rename_i h <;> (try simp only [decide_eq_true_eq, decide_eq_false_iff_not, Bool.not_eq_true', Bool.not_eq_false', Bool.not_eq_true, Bool.not_eq_false, List.length_map] at h) <;> conv => whnf)
    · have hlt : i < ds.length := by omega
      have hls : i < sh.length := by omega
      have hlg : i < k + m := by omega
      have hts := accI_take_succ (f := F) hlt
      have hgd : sh.getD i .empty = sh[i] := by rw [List.getD_eq_getElem?_getD, List.getElem?_eq_getElem hls]; rfl
      have hFi : F i ds[i] = if goodI fr f i = true then [] else wrS k m sz file whole sh[i] i ds[i] ++ [rnStep i file name] := by rw [← hF, mendF, hgd]
      refine ⟨i, rfl, by omega, ?_⟩; (conv => whnf)
      refine ⟨_, at_map0 hls, ?_⟩; (conv => whnf)
      refine ⟨i, rfl, by omega, ?_⟩; (conv => whnf)
      refine ⟨_, updA (f := goodI fr f) bE hlg, ?_⟩; (conv => whnf)
      cases hgi : goodI fr f i with
      | true =>
        rw [if_pos hgi] at hFi
        rw [hFi, List.append_nil] at hts
        (conv => whnf)
        (refine ⟨((i + 1 : Nat) : Int), by rw [← wrap64_id] <;> omega, ?_⟩; conv => whnf)
        exact lg_back (i + 1) (by omega) (by (try dsimp only); omega) (weak_of (all_cons rfl (all_cons rfl (all_cons rfl (all_cons rfl (all_cons (eq_loc rfl (by rw [hts])) (all_cons rfl (all_cons rfl (all_cons rfl all_nil)))))))) (all_cons rfl (all_cons rfl (all_cons rfl (all_cons rfl (all_cons rfl (all_cons (eq_row rfl (by rw [hts])) all_nil)))))) rfl rfl)
      | false =>
        rw [if_neg (by rw [hgi]; decide)] at hFi
        have cW := writeImpl_c (k := k) (m := m) (i := i) (ds := ds) (file := file) (text := text) (whole := whole) (shard := sh[i]) hk.2 hm hlt (by omega) (hd _ (List.getElem_mem hlt)) (hl _ (List.getElem_mem hlt)) (by omega) (by omega) (by omega) (by rw [hes _ (List.getElem_mem hls)]; omega)
        rw [hsz] at cW
        obtain ⟨P, hP⟩ : ∃ P, wrS k m sz file whole sh[i] i ds[i] = P := ⟨_, rfl⟩
        have hPl : P.length ≤ 3 := by rw [← hP]; exact wrS_len _ _ _ _ _ _ _ _
        rw [hP] at cW hFi
        rw [hFi] at hts
        (conv => whnf)
        refine ⟨_, _, cW, lendA, ?_⟩; (conv => whnf)
        refine ⟨true, P.map DStep.enc, ⟨rfl, by simp, rfl, by rw [List.drop_zero]; exact (List.take_of_length_le (by simp)).symm⟩, ?_⟩; (conv => whnf)
        refine ⟨_, laid_map (f := DStep.enc) (fun _ => rfl) P, rfl, by simp, rfl, by simp [maxLen]; omega, by simp; omega, ?_⟩; (conv => whnf)
        refine ⟨true, [(rnStep i file name).enc], ⟨rfl, by simp [chunk], rfl, rfl⟩, ?_⟩; (conv => whnf)
        refine ⟨_, laid_map (f := DStep.enc) (fun _ => rfl) [rnStep i file name], rfl, by simp, rfl, by simp [maxLen]; omega, by simp; omega, ?_⟩; (conv => whnf)
        (refine ⟨((i + 1 : Nat) : Int), by rw [← wrap64_id] <;> omega, ?_⟩; conv => whnf)
        exact lg_back (i + 1) (by omega) (by (try dsimp only); omega) (weak_of (all_cons rfl (all_cons rfl (all_cons rfl (all_cons rfl (all_cons (eq_loc rfl (by rw [hts]; simp; omega)) (all_cons rfl (all_cons rfl (all_cons rfl all_nil)))))))) (all_cons rfl (all_cons rfl (all_cons rfl (all_cons rfl (all_cons rfl (all_cons (eq_row rfl (by rw [hts]; simp)) all_nil)))))) rfl rfl)
    · have hie : i = ds.length := by omega
      subst hie
      exact ⟨close_row rfl rfl (by rw [List.take_length, List.length_map]) (by rw [List.take_length]), trivial⟩
end Go.Proofs.YthdejoipdgahiaaGreatDoor
namespace Go.Proofs.YthdejoipdgahiaaGreatDoor
open Go.RowKit
set_option linter.unusedSimpArgs false
set_option linter.unusedVariables false
set_option maxRecDepth 100000
set_option maxHeartbeats 4000000
theorem mendSpec_c {k m tag : Nat} {ds : List DDrive} {name : ByteArray} (hk : 1 ≤ k ∧ k ≤ 8) (hm : m ≤ 6) (hdl : ds.length = k + m) (hd : ∀ d ∈ ds, driveOk d = true) (hl : ∀ d ∈ ds, d.files.length ≤ 4294967296) (htx : ∀ d ∈ ds, ∀ f ∈ d.files, f.text.size ≤ 20000) (htag : tag ≤ 9) (hn : name.size ≤ 90000) :
    Fun1 Tryz.prog 20 [.agg (DArray.enc ⟨k, m, ds⟩), .one (vN tag), .one (.lit (.string name))] (.one (.row true 5 ((mendL k m ds tag name).map DStep.enc))) := by
  have hO := lookSpec_c hk hm hdl hd hl htx (name := name)
  have hgood : ∀ j g, frO k m ds name j = some g → FrG k m g := fun j g h => (frO_good h).1
  unfold mendL
  unfold lookR lookE at hO
  obtain ⟨fr, hfr⟩ : ∃ fr, frO k m ds name = fr := ⟨_, rfl⟩
  rw [hfr] at hO hgood ⊢
  have hst : ∀ f, stO k m fr (k + m) = some f → _ := fun f h => stO_mem h
  cases hs : stO k m fr (k + m) with
  | none =>
    have ho : oB k m fr (k + m) = false := by rw [oB, hs]; rfl
    rw [ho] at hO
    refine fun1_of_vc tb_ok mix (fn := Tryz.f20) Tryz.func20 rfl (by kernel_rfl) (by kernel_rfl) (by simp [Tryz.f20]) (by exact steps_nb _) ?_
    (conv => whnf)
    refine ⟨_, _, hO, lends_cons (lend_bor rfl rfl) (lends_cons (lend_one (la_lit rfl)) lends_nil), ?_⟩; (conv => whnf)
    exact ⟨close_row rfl rfl rfl rfl, trivial⟩
  | some f =>
    obtain ⟨j0, -, hfj, hb⟩ := hst f hs
    obtain ⟨n', hn1, hn2, -⟩ := (hgood j0 f hfj).n
    have hTs : (tryT k m fr f).size ≤ 12000 := by
      have := decT_size k m (shN k f.n.toNat) f.n.toNat (shO (k + m) fr f)
      rw [hn1, Int.toNat_natCast] at this
      have e : tryT k m fr f = decT k m (shN k n') n' (shO (k + m) fr f) := by rw [tryT, hn1, Int.toNat_natCast]
      rw [e]; omega
    have hwh : digF (tryT k m fr f) = f.whole := by
      unfold tryB at hb
      simp only [Bool.and_eq_true, decide_eq_true_eq] at hb
      exact hb.2
    have ho : oB k m fr (k + m) = true := by rw [oB, hs]; rfl
    have hcI : cI k m (k + m) fr (k + m) = updL (goodI fr f) false (k + m) (k + m) := by rw [cI, hs]
    have hTs2 : stT k m fr (k + m) = tryT k m fr f := stT_some hs
    rw [ho, hcI, hTs2] at hO
    simp only
    obtain ⟨text, htext⟩ : ∃ x, tryT k m fr f = x := ⟨_, rfl⟩
    rw [htext] at hO hTs hwh
    rw [htext]
    have hfs := tagN_size tag name
    have cE := encSpec_c hk hm (by omega : text.size ≤ 20000)
    have hb0 := shN_bounds (size := text.size) hk.1
    have hel := encN_len k m text
    have hes := @encN_size k m text
    have hws := digF_size text
    obtain ⟨file, hfile⟩ : ∃ x, tagN tag name = x := ⟨_, rfl⟩
    obtain ⟨whole, hwhole⟩ : ∃ x, digF text = x := ⟨_, rfl⟩
    obtain ⟨sh, hsh⟩ : ∃ x, encN k m text = x := ⟨_, rfl⟩
    rw [hfile] at hfs
    rw [hwhole] at hws
    rw [hsh] at cE hel hes
    rw [hfile, hwhole, hsh]
    obtain ⟨sz, hsz⟩ : ∃ x, text.size = x := ⟨_, rfl⟩
    rw [hsz]
    obtain ⟨F, hF⟩ : ∃ F, mendF k m sz file whole name sh (goodI fr f) = F := ⟨_, rfl⟩
    have hFl : ∀ i d, (F i d).length ≤ 4 := fun i d => by rw [← hF]; exact mendF_len _ _ _ _ _ _ _ _ _ _
    rw [hF]
    have hal : ∀ i, (accI F 0 (ds.take i)).length ≤ 56 := fun i => by
      have := accI_len_le (f := F) (g := fun _ => 4) hFl ds i
      rw [sum_four] at this; omega
    obtain ⟨fN, hfN⟩ : ∃ x, filesN ds name (k + m) = x := ⟨_, rfl⟩
    rw [hfN] at hO
    have hu0 := updN (f := frS fr) (d := Fr.zero) (n := k + m) Fr.enc (Nat.le_refl _)
    have hu1 := updN (f := hvS fr) (d := false) (n := k + m) bE (Nat.le_refl _)
    have hu2 := updN (f := goodI fr f) (d := false) (n := k + m) bE (Nat.le_refl _)
    refine fun1_of_vc tb_ok mix (fn := Tryz.f20) Tryz.func20 rfl (by kernel_rfl) (by kernel_rfl) (by simp [Tryz.f20]) (by exact steps_nb _) ?_
    (conv => whnf)
    refine ⟨_, _, hO, lends_cons (lend_bor rfl rfl) (lends_cons (lend_one (la_lit rfl)) lends_nil), ?_⟩; (conv => whnf)
    refine ⟨_, _, cE, lendA, ?_⟩; (conv => whnf)
    refine ⟨LG (fun i : Nat => i ≤ k + m) (fun i => k + m - i) (fun i => AS.of [(1, .one (vN tag)), (2, .one (.lit (.string name))), (3, .one (.ptr 48 0)), (7, .one (.ptr 112 0)), (8, .one (.loc 224 0 (accI F 0 (ds.take i)).length)), (9, .one (.loc 400 0 (k + m))), (10, .one (vN i))]
      [(48, .var (DArray.enc ⟨k, m, ds⟩)), (112, .var [vN fN, .loc 209 0 (k + m), .loc 210 0 (k + m), .loc 211 0 (k + m), .lit (.string text), .lit (.bool true)]), (209, .row true 6 ((updL (frS fr) Fr.zero (k + m) (k + m)).map Fr.enc)), (210, .row true 1 ((updL (hvS fr) false (k + m) (k + m)).map bE)), (211, .row true 1 ((updL (goodI fr f) false (k + m) (k + m)).map bE)), (400, .row true 1 (sh.map eStr)), (224, .row true 5 ((accI F 0 (ds.take i)).map DStep.enc))]),
      lg_init 0 (by omega) (weak_of (all_cons rfl (all_cons rfl (all_cons rfl (all_cons rfl (all_cons rfl (all_cons (eq_loc rfl (by rw [List.length_map, hel])) (all_cons rfl all_nil))))))) (all_cons rfl (all_cons ?_ (all_cons rfl (all_cons rfl (all_cons rfl (all_cons rfl (all_cons rfl all_nil))))))) rfl rfl), ?_⟩
    · show some (Blk.var [vN fN, .loc 209 0 ((updL (frS fr) Fr.zero (k + m) (k + m)).map Fr.enc).length, .loc 210 0 ((updL (hvS fr) false (k + m) (k + m)).map bE).length, .loc 211 0 ((updL (goodI fr f) false (k + m) (k + m)).map bE).length, .lit (.string text), .lit (.bool true)]) = _
      rw [hu0, hu1, hu2]
    rintro σ j ⟨i, hi, rfl, rfl⟩
    have hai := hal i
    refine ⟨_, Weak.refl _, ?_⟩
    (conv => whnf)
    (split <;> rename_i h <;> (try simp only [decide_eq_true_eq, decide_eq_false_iff_not, Bool.not_eq_true', Bool.not_eq_false', Bool.not_eq_true, Bool.not_eq_false, List.length_map] at h) <;> conv => whnf)
    · have hlt : i < ds.length := by omega
      have hls : i < sh.length := by omega
      have hlg : i < k + m := by omega
      have hts := accI_take_succ (f := F) hlt
      have hgd : sh.getD i .empty = sh[i] := by rw [List.getD_eq_getElem?_getD, List.getElem?_eq_getElem hls]; rfl
      have hFi : F i ds[i] = if goodI fr f i = true then [] else wrS k m sz file whole sh[i] i ds[i] ++ [rnStep i file name] := by rw [← hF, mendF, hgd]
      refine ⟨i, rfl, by omega, ?_⟩; (conv => whnf)
      refine ⟨_, updA (f := goodI fr f) bE hlg, ?_⟩; (conv => whnf)
      cases hgi : goodI fr f i with
      | true =>
        rw [if_pos hgi] at hFi
        rw [hFi, List.append_nil] at hts
        (conv => whnf)
        (refine ⟨((i + 1 : Nat) : Int), by rw [← wrap64_id] <;> omega, ?_⟩; conv => whnf)
        exact lg_back (i + 1) (by omega) (by (try dsimp only); omega) (weak_of (all_cons rfl (all_cons rfl (all_cons rfl (all_cons rfl (all_cons (eq_loc rfl (by rw [hts])) (all_cons rfl (all_cons rfl all_nil))))))) (all_cons rfl (all_cons rfl (all_cons rfl (all_cons rfl (all_cons rfl (all_cons rfl (all_cons (eq_row rfl (by rw [hts])) all_nil))))))) rfl rfl)
      | false =>
        rw [if_neg (by rw [hgi]; decide)] at hFi
        have cW := writeSpec_c (k := k) (m := m) (i := i) (tag := tag) (ds := ds) (name := name) (text := text) (shards := sh) hk hm hlt (by omega) (hl _ (List.getElem_mem hlt)) htag hn hTs hls (hes _ (List.getElem_mem hls))
        rw [hsz, hfile, hwhole] at cW
        have cR := rename_c (i := i) (name := name) htag hn
        rw [hfile] at cR
        obtain ⟨P, hP⟩ : ∃ P, wrS k m sz file whole sh[i] i ds[i] = P := ⟨_, rfl⟩
        have hPl : P.length ≤ 3 := by rw [← hP]; exact wrS_len _ _ _ _ _ _ _ _
        rw [hP] at cW hFi
        rw [hFi] at hts
        (conv => whnf)
        refine ⟨_, _, cW, (lends_cons (lend_agg (all2_cons (la_int rfl) (all2_cons (la_int rfl) (all2_cons (la_row rfl rfl) all2_nil)))) (lends_cons (lend_one (la_int rfl)) (lends_cons (lend_one (la_lit rfl)) (lends_cons (lend_one (la_lit rfl)) (lends_cons (lend_one (la_loc rfl rfl rfl (by rw [List.length_map, hel]) rfl)) (lends_cons (lend_one (la_int rfl)) lends_nil)))))), ?_⟩; (conv => whnf)
        refine ⟨true, P.map DStep.enc, ⟨rfl, by simp, rfl, by rw [List.drop_zero]; exact (List.take_of_length_le (by simp)).symm⟩, ?_⟩; (conv => whnf)
        refine ⟨_, laid_map (f := DStep.enc) (fun _ => rfl) P, rfl, by simp, rfl, by simp [maxLen]; omega, by simp; omega, ?_⟩; (conv => whnf)
        refine ⟨_, _, cR, lendA, ?_⟩; (conv => whnf)
        refine ⟨true, [(rnStep i file name).enc], ⟨rfl, by simp [chunk], rfl, rfl⟩, ?_⟩; (conv => whnf)
        refine ⟨_, laid_map (f := DStep.enc) (fun _ => rfl) [rnStep i file name], rfl, by simp, rfl, by simp [maxLen]; omega, by simp; omega, ?_⟩; (conv => whnf)
        (refine ⟨((i + 1 : Nat) : Int), by rw [← wrap64_id] <;> omega, ?_⟩; conv => whnf)
        exact lg_back (i + 1) (by omega) (by (try dsimp only); omega) (weak_of (all_cons rfl (all_cons rfl (all_cons rfl (all_cons rfl (all_cons (eq_loc rfl (by rw [hts]; simp; omega)) (all_cons rfl (all_cons rfl all_nil))))))) (all_cons rfl (all_cons rfl (all_cons rfl (all_cons rfl (all_cons rfl (all_cons rfl (all_cons (eq_row rfl (by rw [hts]; simp)) all_nil))))))) rfl rfl)
    · have hie : i = ds.length := by omega
      subst hie
      exact ⟨close_row rfl rfl (by rw [List.take_length, List.length_map]) (by rw [List.take_length]), trivial⟩
end Go.Proofs.YthdejoipdgahiaaGreatDoor
namespace Go.Proofs.YthdejoipdgahiaaGreatDoor
open Go.RowKit
set_option linter.unusedSimpArgs false
set_option linter.unusedVariables false
set_option maxRecDepth 100000
set_option maxHeartbeats 4000000
theorem used_of_wt2 {x : DArray} (hw : x.wt ≤ 1048576) : ∀ d ∈ x.drives, usedN d.files ≤ 1000000000000 := fun d hd => by
  have h1 : x.wt = wL DDrive.wt x.drives := rfl
  have h2 := wL_mem (f := DDrive.wt) hd
  have h3 : d.wt = wL DStored.wt d.files := rfl
  have h4 := usedN_le d.files
  omega
theorem cnStep2 (l : List DStep) : cnL DStep.cnE l = 5 * l.length := by
  induction l with
  | nil => rfl
  | cons y l ih => simp only [cnL, List.map_cons, List.sum_cons, List.length_cons] at ih ⊢; rw [ih]; have : y.cnE = 5 := rfl; omega
def mendR (x : DArray) (tag : Int) (name : ByteArray) : List DStep :=
  if (name.size : Int) ≤ 20000 ∧ arrayOk x = true ∧ tagOk tag = true ∧ objOk name = true then mendL x.k.toNat x.m.toNat x.drives tag.toNat name else []
theorem files_small {x : DArray} (h : arrayOk x = true) : ∀ d ∈ x.drives, ∀ f ∈ d.files, f.text.size ≤ 20000 := by
  intro d hd f hf
  have hdo := (arrayOk_len h).2.1 d hd
  unfold driveOk at hdo
  simp only [Bool.and_eq_true] at hdo
  have hfs := hdo.1.2
  obtain ⟨i, hi, rfl⟩ := List.getElem_of_mem hf
  unfold filesOk at hfs
  have := List.all_eq_true.1 hfs i (List.mem_range.2 hi)
  rw [fOk_eq hi] at this
  simp only [Bool.and_eq_true, decide_eq_true_eq] at this
  exact this.1.1.2
theorem natArr {x : DArray} (h : arrayOk x = true) : ∃ k m : Nat, x = ⟨k, m, x.drives⟩ ∧ x.k.toNat = k ∧ x.m.toNat = m ∧ 1 ≤ k ∧ k ≤ 8 ∧ m ≤ 6 ∧ x.drives.length = k + m := by
  obtain ⟨_, _, h1, h2, h3, h4, h5⟩ := arrayOk_len h
  refine ⟨x.k.toNat, x.m.toNat, ?_, rfl, rfl, by omega, by omega, by omega, by omega⟩
  obtain ⟨k, m, ds⟩ := x
  simp only at h1 h3 ⊢
  rw [Int.toNat_of_nonneg (by omega), Int.toNat_of_nonneg h3]
theorem mendStepsImpl_c (x : DArray) (hx : x.ok) (hu : ∀ d ∈ x.drives, usedN d.files ≤ 1000000000000) (tag : Int) (name : ByteArray) (hn : name.size ≤ 4294967296) :
    Fun1 Tryz.prog 8 [.agg x.enc, .one (.lit (.int .i64 tag)), .one (.lit (.string name))] (.one (.row true 5 ((mendR x tag name).map DStep.enc))) := by
  obtain ⟨r, hr⟩ : ∃ r, mendR x tag name = r := ⟨_, rfl⟩
  rw [hr]
  unfold mendR at hr
  by_cases hc : (name.size : Int) ≤ 20000 ∧ arrayOk x = true ∧ tagOk tag = true ∧ objOk name = true
  · rw [if_pos hc] at hr
    obtain ⟨h1, h3, h4, h5⟩ := hc
    obtain ⟨k, m, hxe, hk, hm, k1, k8, m6, hdl⟩ := natArr h3
    rw [hk, hm] at hr
    have hcx := mendImpl_c (k := k) (m := m) (tag := tag.toNat) (ds := x.drives) (name := name) ⟨k1, k8⟩ m6 hdl (arrayOk_len h3).2.1 (fun d hd => (hx.2.2.2 d hd).1.1) (files_small h3) (by simp only [tagOk, Bool.and_eq_true, decide_eq_true_eq] at h4; omega) (by omega)
    rw [← hxe, hr, show vN tag.toNat = .lit (.int .i64 tag) by
      simp only [tagOk, Bool.and_eq_true, decide_eq_true_eq] at h4
      show AV.lit (.int .i64 ((tag.toNat : Nat) : Int)) = _
      rw [Int.toNat_of_nonneg h4.1]] at hcx
    refine fun1_of_vc tb_ok mix (fn := Tryz.f8) Tryz.func8 rfl (by kernel_rfl) (by kernel_rfl) (by simp [Tryz.f8]) (by show AV.nb (4 + 1) _ = true; exact nb_map (n := 4) (fun y => DStep.enc_nbn 4 y) _) ?_
    (conv => whnf)
    refine ⟨_, _, isLong_c name, lendA, ?_⟩; (conv => whnf)
    (split <;> rename_i g1 <;> (try simp only [decide_eq_true_eq, decide_eq_false_iff_not, Bool.not_eq_true', Bool.not_eq_false', Bool.not_eq_true, Bool.not_eq_false, List.length_map] at g1) <;> conv => whnf)
    · exfalso; omega
    refine ⟨_, _, arrayImpl_c x hx hu, lendA, ?_⟩
    rw [h3]
    (conv => whnf)
    refine ⟨_, _, isTag_c tag, lendA, ?_⟩
    rw [h4]
    (conv => whnf)
    refine ⟨_, _, objectImpl_c name hn, lendA, ?_⟩
    rw [h5]
    (conv => whnf)
    refine ⟨_, _, hcx, lendA, ?_⟩; (conv => whnf)
    exact ⟨close_row rfl rfl rfl rfl, trivial⟩
  · rw [if_neg hc] at hr
    subst hr
    refine fun1_of_vc tb_ok mix (fn := Tryz.f8) Tryz.func8 rfl (by kernel_rfl) (by kernel_rfl) (by simp [Tryz.f8]) (by rfl) ?_
    (conv => whnf)
    refine ⟨_, _, isLong_c name, lendA, ?_⟩; (conv => whnf)
    (split <;> rename_i g1 <;> (try simp only [decide_eq_true_eq, decide_eq_false_iff_not, Bool.not_eq_true', Bool.not_eq_false', Bool.not_eq_true, Bool.not_eq_false, List.length_map] at g1) <;> conv => whnf)
    · exact (by repeat' (first | exact trivial | exact close_int rfl | exact close_str rfl | exact close_bool rfl | exact close_int (by omega) | exact close_row rfl rfl (by first | rfl | simp) (by first | rfl | simp) | exact close_nil (by first | rfl | simp) | exact rfl | apply And.intro | apply closeTs_cons rfl))
    refine ⟨_, _, arrayImpl_c x hx hu, lendA, ?_⟩; (conv => whnf)
    (split <;> rename_i g2 <;> (try simp only [decide_eq_true_eq, decide_eq_false_iff_not, Bool.not_eq_true', Bool.not_eq_false', Bool.not_eq_true, Bool.not_eq_false, List.length_map] at g2) <;> conv => whnf)
    · exact (by repeat' (first | exact trivial | exact close_int rfl | exact close_str rfl | exact close_bool rfl | exact close_int (by omega) | exact close_row rfl rfl (by first | rfl | simp) (by first | rfl | simp) | exact close_nil (by first | rfl | simp) | exact rfl | apply And.intro | apply closeTs_cons rfl))
    refine ⟨_, _, isTag_c tag, lendA, ?_⟩; (conv => whnf)
    (split <;> rename_i g3 <;> (try simp only [decide_eq_true_eq, decide_eq_false_iff_not, Bool.not_eq_true', Bool.not_eq_false', Bool.not_eq_true, Bool.not_eq_false, List.length_map] at g3) <;> conv => whnf)
    · exact (by repeat' (first | exact trivial | exact close_int rfl | exact close_str rfl | exact close_bool rfl | exact close_int (by omega) | exact close_row rfl rfl (by first | rfl | simp) (by first | rfl | simp) | exact close_nil (by first | rfl | simp) | exact rfl | apply And.intro | apply closeTs_cons rfl))
    refine ⟨_, _, objectImpl_c name hn, lendA, ?_⟩; (conv => whnf)
    (split <;> rename_i g4 <;> (try simp only [decide_eq_true_eq, decide_eq_false_iff_not, Bool.not_eq_true', Bool.not_eq_false', Bool.not_eq_true, Bool.not_eq_false, List.length_map] at g4) <;> conv => whnf)
    · exact (by repeat' (first | exact trivial | exact close_int rfl | exact close_str rfl | exact close_bool rfl | exact close_int (by omega) | exact close_row rfl rfl (by first | rfl | simp) (by first | rfl | simp) | exact close_nil (by first | rfl | simp) | exact rfl | apply And.intro | apply closeTs_cons rfl))
    · exact absurd ⟨by omega, g2, g3, g4⟩ hc
theorem mendStepsSpec_c (x : DArray) (hx : x.ok) (hu : ∀ d ∈ x.drives, usedN d.files ≤ 1000000000000) (tag : Int) (name : ByteArray) (hn : name.size ≤ 4294967296) :
    Fun1 Tryz.prog 6 [.agg x.enc, .one (.lit (.int .i64 tag)), .one (.lit (.string name))] (.one (.row true 5 ((mendR x tag name).map DStep.enc))) := by
  obtain ⟨r, hr⟩ : ∃ r, mendR x tag name = r := ⟨_, rfl⟩
  rw [hr]
  unfold mendR at hr
  by_cases hc : (name.size : Int) ≤ 20000 ∧ arrayOk x = true ∧ tagOk tag = true ∧ objOk name = true
  · rw [if_pos hc] at hr
    obtain ⟨h1, h3, h4, h5⟩ := hc
    obtain ⟨k, m, hxe, hk, hm, k1, k8, m6, hdl⟩ := natArr h3
    rw [hk, hm] at hr
    have hcx := mendSpec_c (k := k) (m := m) (tag := tag.toNat) (ds := x.drives) (name := name) ⟨k1, k8⟩ m6 hdl (arrayOk_len h3).2.1 (fun d hd => (hx.2.2.2 d hd).1.1) (files_small h3) (by simp only [tagOk, Bool.and_eq_true, decide_eq_true_eq] at h4; omega) (by omega)
    rw [← hxe, hr, show vN tag.toNat = .lit (.int .i64 tag) by
      simp only [tagOk, Bool.and_eq_true, decide_eq_true_eq] at h4
      show AV.lit (.int .i64 ((tag.toNat : Nat) : Int)) = _
      rw [Int.toNat_of_nonneg h4.1]] at hcx
    refine fun1_of_vc tb_ok mix (fn := Tryz.f6) Tryz.func6 rfl (by kernel_rfl) (by kernel_rfl) (by simp [Tryz.f6]) (by show AV.nb (4 + 1) _ = true; exact nb_map (n := 4) (fun y => DStep.enc_nbn 4 y) _) ?_
    (conv => whnf)
    (split <;> rename_i g1 <;> (try simp only [decide_eq_true_eq, decide_eq_false_iff_not, Bool.not_eq_true', Bool.not_eq_false', Bool.not_eq_true, Bool.not_eq_false, List.length_map] at g1) <;> conv => whnf)
    · exfalso; omega
    refine ⟨_, _, arraySpec_c x hx hu, lendA, ?_⟩
    rw [h3]
    (conv => whnf)
    refine ⟨_, _, l09Tag_c tag, lendA, ?_⟩
    rw [h4]
    (conv => whnf)
    refine ⟨_, _, objectSpec_c name hn, lendA, ?_⟩
    rw [h5]
    (conv => whnf)
    refine ⟨_, _, hcx, lendA, ?_⟩; (conv => whnf)
    exact ⟨close_row rfl rfl rfl rfl, trivial⟩
  · rw [if_neg hc] at hr
    subst hr
    refine fun1_of_vc tb_ok mix (fn := Tryz.f6) Tryz.func6 rfl (by kernel_rfl) (by kernel_rfl) (by simp [Tryz.f6]) (by rfl) ?_
    (conv => whnf)
    (split <;> rename_i g1 <;> (try simp only [decide_eq_true_eq, decide_eq_false_iff_not, Bool.not_eq_true', Bool.not_eq_false', Bool.not_eq_true, Bool.not_eq_false, List.length_map] at g1) <;> conv => whnf)
    · exact ⟨close_row rfl rfl rfl rfl, trivial⟩
    refine ⟨_, _, arraySpec_c x hx hu, lendA, ?_⟩; (conv => whnf)
    (split <;> rename_i g3 <;> (try simp only [decide_eq_true_eq, decide_eq_false_iff_not, Bool.not_eq_true', Bool.not_eq_false', Bool.not_eq_true, Bool.not_eq_false, List.length_map] at g3) <;> conv => whnf)
    · exact ⟨close_row rfl rfl rfl rfl, trivial⟩
    refine ⟨_, _, l09Tag_c tag, lendA, ?_⟩; (conv => whnf)
    (split <;> rename_i g4 <;> (try simp only [decide_eq_true_eq, decide_eq_false_iff_not, Bool.not_eq_true', Bool.not_eq_false', Bool.not_eq_true, Bool.not_eq_false, List.length_map] at g4) <;> conv => whnf)
    · exact ⟨close_row rfl rfl rfl rfl, trivial⟩
    refine ⟨_, _, objectSpec_c name hn, lendA, ?_⟩; (conv => whnf)
    (split <;> rename_i g5 <;> (try simp only [decide_eq_true_eq, decide_eq_false_iff_not, Bool.not_eq_true', Bool.not_eq_false', Bool.not_eq_true, Bool.not_eq_false, List.length_map] at g5) <;> conv => whnf)
    · exact ⟨close_row rfl rfl rfl rfl, trivial⟩
    · exact absurd ⟨by omega, g3, g4, g5⟩ hc
theorem wrS_ok {k m n i : Nat} {file whole shard : ByteArray} {d : DDrive} (hi : i ≤ 1000000) (hf : file.size ≤ 100000) (hw : whole.size ≤ 100000) (hs : shard.size ≤ 100000) : ∀ y ∈ wrS k m n file whole shard i d, y.ok := by
  have hi' : inI (i : Int) := by unfold inI; omega
  have he : ByteArray.empty.size ≤ 4294967296 := by decide
  have hfr := frameN_size k m i n whole shard
  intro y hy
  unfold wrS at hy
  rcases List.mem_append.1 hy with hy | hy
  · split at hy
    · simp at hy; subst hy
      exact ⟨hi', by show inI 4; unfold inI; omega, by show file.size ≤ _; omega, he, he⟩
    · cases hy
  · simp at hy
    rcases hy with rfl | rfl
    · exact ⟨hi', by show inI 1; unfold inI; omega, by show file.size ≤ _; omega, he, by show (frameN k m i n whole shard).size ≤ _; omega⟩
    · exact ⟨hi', by show inI 2; unfold inI; omega, by show file.size ≤ _; omega, he, he⟩
theorem mendR_ok (x : DArray) (tag : Int) (name : ByteArray) : (mendR x tag name).length ≤ 4294967296 ∧ ∀ y ∈ mendR x tag name, y.ok := by
  unfold mendR
  split
  · rename_i hc
    obtain ⟨h1, h3, h4, h5⟩ := hc
    obtain ⟨k, m, hxe, hk, hm, k1, k8, m6, hdl⟩ := natArr h3
    rw [hk, hm]
    unfold mendL
    cases hs : stO k m (frO k m x.drives name) (k + m) with
    | none => exact ⟨by simp, fun y hy => by cases hy⟩
    | some f =>
      simp only
      obtain ⟨j0, -, hfj, hb⟩ := stO_mem hs
      obtain ⟨n', hn1, hn2, -⟩ := (frO_good hfj).1.n
      have hTs : (tryT k m (frO k m x.drives name) f).size ≤ 12000 := by
        have := decT_size k m (shN k f.n.toNat) f.n.toNat (shO (k + m) (frO k m x.drives name) f)
        rw [hn1, Int.toNat_natCast] at this
        have e : tryT k m (frO k m x.drives name) f = decT k m (shN k n') n' (shO (k + m) (frO k m x.drives name) f) := by rw [tryT, hn1, Int.toNat_natCast]
        rw [e]; omega
      obtain ⟨text, htext⟩ : ∃ z, tryT k m (frO k m x.drives name) f = z := ⟨_, rfl⟩
      rw [htext] at hTs ⊢
      have he : ByteArray.empty.size ≤ 4294967296 := by decide
      have hts := tagN_size tag.toNat name
      have hal := accI_len (f := mendF k m text.size (tagN tag.toNat name) (digF text) name (encN k m text) (goodI (frO k m x.drives name) f)) (g := fun _ => 4) (mendF_len k m text.size (tagN tag.toNat name) (digF text) name (encN k m text) _) x.drives 0
      rw [sum_four] at hal
      refine ⟨by omega, fun y hy => ?_⟩
      obtain ⟨j, d, hd, _, hj, hy⟩ := accI_mem hy
      have hjl : j < (encN k m text).length := by rw [encN_len]; omega
      unfold mendF at hy
      split at hy
      · cases hy
      · rw [List.getD_eq_getElem?_getD, List.getElem?_eq_getElem hjl] at hy
        have hsz := encN_size _ (List.getElem_mem hjl)
        have hb := (shN_bounds (size := text.size) k1).2.2
        rcases List.mem_append.1 hy with hy | hy
        · exact wrS_ok (by omega) (by omega) (by rw [digF_size]; omega) (by show (encN k m text)[j].size ≤ _; omega) y hy
        · rw [List.mem_singleton] at hy
          subst hy
          exact ⟨by show inI (j : Int); unfold inI; omega, by show inI 3; unfold inI; omega, by show (tagN tag.toNat name).size ≤ _; omega, by show name.size ≤ _; omega, he⟩
  · exact ⟨by simp, fun y hy => by cases hy⟩
theorem fnExactMendSteps_c (x0 : DArray) (h0 : x0.it) (x1 : Int) (h1 : inI x1) (x2 : ByteArray) (h2 : x2.size ≤ 9223372036854775807) :
    Fun1 Tryz.prog 3 [.agg x0.enc, .one (.lit (.int .i64 x1)), .one (.lit (.string x2))] (.one (.lit (.bool true))) := by
  refine lawMendSteps_c x0 h0 x1 h1 x2 h2 fun hw hw2 => ?_
  have hok := DArray.ok_of x0 h0 (by omega)
  have hr := mendR_ok x0 x1 x2
  refine ⟨mendR x0 x1 x2, hr, ?_, mendStepsSpec_c x0 hok (used_of_wt2 hw) x1 x2 (by omega), mendStepsImpl_c x0 hok (used_of_wt2 hw) x1 x2 (by omega)⟩
  have := cnStep2 (mendR x0 x1 x2)
  omega
end Go.Proofs.YthdejoipdgahiaaGreatDoor
namespace Go.Proofs.YthdejoipdgahiaaGreatDoor.fnExactMendSteps
open Go.ChangeShapes Go.WideShapes Go.ChangeAt Go.RowKit
theorem closed : joinedFacts Tryz.prog 3 Tryz.f3 Rows.fnExactMendStepsSpec Rows.fnExactMendStepsRow = true := by kernel_rfl
end Go.Proofs.YthdejoipdgahiaaGreatDoor.fnExactMendSteps
namespace Go.Proofs.YthdejoipdgahiaaGreatDoor
open Go.RowKit
set_option linter.unusedSimpArgs false
set_option linter.unusedVariables false
def cAll (w : World) : Ctx := c0 fun k => k < w.heap.size
def OpensA {α : Type} (P : Program) (t : TypeId) (f : α → List AV) (ok : α → Prop) : Prop :=
  ∀ (H : Type) (enc : TypeId × Value → H) (w : World) (spare : Nat → Bool) (held : Bool) (fuel : Nat) (cs : List Value) (x : DataW H × List MemPlace), DataW.trod enc P w 0 spare held fuel t cs = some x → ∃ y, RL (cAll w) w (f y) cs ∧ ok y
section
variable {P : Program} {t e : TypeId} {α : Type} {f : α → List AV} {ok : α → Prop}
theorem opensA_int (ht : P.underlying t = some (.int .i64)) : OpensA P t (fun n : Int => [.lit (.int .i64 n)]) (fun n => -9223372036854775808 ≤ n ∧ n ≤ 9223372036854775807) := fun H enc w spare held fuel cs x h => by
  obtain ⟨n, rfl, _, hw⟩ := DataW.trod_int ht h
  simp only [Lit.wf, Bool.and_eq_true, decide_eq_true_eq] at hw
  have e1 : IntKind.i64.min = -9223372036854775808 := by rfl
  have e2 : IntKind.i64.max = 9223372036854775807 := by rfl
  exact ⟨n, ⟨⟨.lit _, rfl⟩, trivial⟩, by omega⟩
theorem opensA_str (ht : P.underlying t = some .string) : OpensA P t (fun s : ByteArray => [.lit (.string s)]) (fun s => s.size ≤ 9223372036854775807) := fun H enc w spare held fuel cs x h => by
  obtain ⟨s, rfl, _, hw⟩ := DataW.trod_string ht h
  exact ⟨s, ⟨⟨.lit _, rfl⟩, trivial⟩, hw⟩
theorem opensA_slice {k : Nat} (ht : P.underlying t = some (.slice e)) (hc : P.cellsOf e = k) (hk : 0 < k) (hf : ∀ x, (f x).all AV.isCell = true) (hl : ∀ x, (f x).length = k) (h : OpensA P e f ok) :
    OpensA P t (fun xs : List α => [.row true k (xs.map f)]) (fun xs => xs.length ≤ 9223372036854775807 ∧ ∀ x ∈ xs, ok x) := fun H enc w spare held fuel cs x hx => by
  rcases Go.Deep.open_slice ht hx with ⟨rfl, _⟩ | ⟨a, len, cap, m, n, D, Pl, rfl, _, hlc, hm, hmm, _, hel⟩
  · exact ⟨[], ⟨⟨.row 0 0 (fun _ _ => default) (Nat.le_refl _) (by simp) (by simp) (by simp) (by simp [elt]) (by simp [elt]) (by simp [elt]) (by simp [elt]), rfl⟩, trivial⟩, by simp, fun x hx => by cases hx⟩
  · have hlm : len ≤ m := by rw [hmm]; split <;> omega
    have hspot : 0 < len → a.spot = none ∧ a.block < w.heap.size := fun hp => by
      obtain ⟨cs', h1, _⟩ := hel 0 (by omega)
      obtain ⟨_, h3, h4⟩ := World.cells?_some h1
      rw [hc] at h3 h4
      have h5 := h4 0 hk
      have e0 : (a.add (0 * k)).add 0 = a := by simp [Addr.add]
      rw [e0, show cs'[0]? = some (cs'[0]'(by omega)) by simp] at h5
      unfold World.cell? at h5
      split at h5
      · rename_i hq
        split at h5
        · cases h5
        · rename_i hs
          exact ⟨by simpa using hs, (Array.getElem?_eq_some_iff.1 hq).1⟩
      · cases h5
    have key : ∀ i : Fin len, ∃ y : α, (∃ cs, RL (cAll w) w (f y) cs ∧ cs.length = k ∧ ∀ j v, cs[j]? = some v → w.cell? ⟨a.block, a.off + i.1 * k + j, none⟩ = some v) ∧ ok y := fun i => by
      obtain ⟨cs', h1, h2⟩ := hel i.1 (by have := i.2; omega)
      obtain ⟨y, hy, ho⟩ := h H enc w spare held n cs' _ h2
      obtain ⟨_, h3, h4⟩ := World.cells?_some h1
      rw [hc] at h3 h4
      refine ⟨y, ⟨cs', hy, h3, fun j v hv => ?_⟩, ho⟩
      have hj : j < k := by have := (List.getElem?_eq_some_iff.1 hv).1; omega
      have h5 := h4 j hj
      rw [hv] at h5
      have hsp := (hspot (by have := i.2; omega)).1
      have e1 : (a.add (i.1 * k)).add j = ⟨a.block, a.off + i.1 * k + j, none⟩ := by
        obtain ⟨b, o, sp⟩ := a
        simp only at hsp
        subst hsp
        simp only [Addr.add]
        split <;> split <;> simp_all
      rw [← e1]; exact h5
    let ys : List α := List.ofFn fun i => (key i).choose
    have hys : ys.length = len := by simp [ys]
    have hget : ∀ i (hi : i < len), ys[i]? = some (key ⟨i, hi⟩).choose := fun i hi => by simp [ys, hi]
    have helt : ∀ i j x, elt (ys.map f) i j = some x → ∃ hi : i < len, (f (key ⟨i, hi⟩).choose)[j]? = some x := fun i j x hx => by
      unfold elt at hx
      have hi : i < len := by
        rcases Nat.lt_or_ge i len with h1 | h1
        · exact h1
        · rw [List.getElem?_eq_none (by simp [hys]; exact h1)] at hx; cases hx
      rw [List.getElem?_map, hget i hi] at hx
      exact ⟨hi, hx⟩
    let vals : Nat → Nat → Value := fun i j => if hi : i < len then ((key ⟨i, hi⟩).choose_spec.1.choose[j]?).getD default else default
    have hval : ∀ i j x, elt (ys.map f) i j = some x → ∃ v, vals i j = v ∧ w.cell? ⟨a.block, a.off + i * k + j, none⟩ = some v ∧ (R (cAll w) w x v ∧ v.oneCell' = true) := fun i j x hx => by
      obtain ⟨hi, hx⟩ := helt i j x hx
      obtain ⟨h1, h2, h3⟩ := (key ⟨i, hi⟩).choose_spec.1.choose_spec
      have hj : j < k := by have := (List.getElem?_eq_some_iff.1 hx).1; rw [hl] at this; exact this
      have hv : (key ⟨i, hi⟩).choose_spec.1.choose[j]? = some ((key ⟨i, hi⟩).choose_spec.1.choose[j]'(by omega)) := by simp
      generalize (key ⟨i, hi⟩).choose_spec.1.choose[j]'(by omega) = v at hv
      refine ⟨v, by simp only [vals, dif_pos hi, hv, Option.getD_some], h3 j v hv, h1.at hx hv⟩
    refine ⟨ys, ⟨⟨?_, rfl⟩, trivial⟩, ?_, fun x hx => ?_⟩
    · have hlen : (ys.map f).length = len := by simp [hys]
      have := R.row (c := cAll w) (w := w) (own := true) (sz := k) (es := ys.map f) (A := some a) (cap := cap) a.block a.off vals (by rw [hlen]; exact hlc) hm (fun hp => by
          rw [hlen] at hp
          obtain ⟨h1, h2⟩ := hspot hp
          refine ⟨?_, h2⟩
          cases a; simp only at h1; subst h1; rfl)
        (fun e he => by obtain ⟨y, _, rfl⟩ := List.mem_map.1 he; exact hl y)
        (fun i j x hx => by
          obtain ⟨hi, hx⟩ := helt i j x hx
          exact List.all_eq_true.1 (hf _) x (List.mem_of_getElem? hx))
        (fun i j x hx => by obtain ⟨v, h1, h2, _⟩ := hval i j x hx; rw [h1]; exact h2)
        (fun i j x hx => by obtain ⟨v, h1, _, h2⟩ := hval i j x hx; rw [h1]; exact h2.2)
        (fun i j x hx => by obtain ⟨v, h1, _, h2⟩ := hval i j x hx; rw [h1]; exact h2.1)
      rw [hlen] at this
      exact this
    · rw [hys]; simp only [maxLen] at hm; omega
    · obtain ⟨i, rfl⟩ := List.mem_ofFn.1 hx
      exact (key i).choose_spec.2
theorem OpensA.mono {ok' : α → Prop} (h : OpensA P t f ok) (hk : ∀ x, ok x → ok' x) : OpensA P t f ok' := fun H enc w spare held fuel cs x hx => let ⟨y, hy, ho⟩ := h H enc w spare held fuel cs x hx; ⟨y, hy, hk y ho⟩
theorem opensA_fields {fs : Array Field} {H : Type} {enc : TypeId × Value → H} {w : World} {spare : Nat → Bool} {held : Bool} {fuel : Nat} {cs : List Value} {x : DataW H × List MemPlace} (ht : P.underlying t = some (.struct fs)) {k : Nat} (hk : P.cellsOf t = k) (h : DataW.trod enc P w 0 spare held fuel t cs = some x) :
    cs.length = k ∧ ∀ (i t' o m : Nat), (fs[i]?).map (fun f => (f.type, f.offset)) = some (t', o) → P.cellsOf t' = m → ∃ n y, DataW.trod enc P w 0 spare held n t' ((cs.drop o).take m) = some y := by
  obtain ⟨xs, n, _, _, hl, hlen, hf⟩ := DataW.trod_struct ht h
  refine ⟨hl.trans hk, fun i t' o m hi hm => ?_⟩
  obtain ⟨f, hi2, e⟩ := Option.map_eq_some_iff.1 hi
  cases e
  subst hm
  have h1 := hf i f hi2
  have : i < xs.length := by have := (Array.getElem?_eq_some_iff.1 hi2).1; omega
  exact ⟨n, xs[i], by rw [h1]; simp [this]⟩
theorem RL.app {c : Ctx} {w : World} : ∀ {xs ys : List AV} {vs us : List Value}, RL c w xs vs → RL c w ys us → RL c w (xs ++ ys) (vs ++ us)
  | [], ys, [], us, _, h => h
  | x :: xs, ys, v :: vs, us, h, h' => ⟨h.1, RL.app h.2 h'⟩
end
end Go.Proofs.YthdejoipdgahiaaGreatDoor
namespace Go.Proofs.YthdejoipdgahiaaGreatDoor
open Go.RowKit
set_option linter.unusedSimpArgs false
set_option linter.unusedVariables false
theorem cellsInt64 : Tryz.prog.cellsOf 2 = 1 := by kernel_rfl
theorem opInt64 : OpensA Tryz.prog 2 (fun n : Int => [.lit (.int .i64 n)]) (fun x : Int => inI x) := opensA_int Tryz.underlying2
theorem cellsString : Tryz.prog.cellsOf 9 = 1 := by kernel_rfl
theorem opString : OpensA Tryz.prog 9 (fun s : ByteArray => [.lit (.string s)]) (fun x : ByteArray => x.size ≤ 9223372036854775807) := opensA_str Tryz.underlying9
theorem cellsStored : Tryz.prog.cellsOf 153 = 3 := by kernel_rfl
theorem opStored : OpensA Tryz.prog 153 DStored.enc (fun x : DStored => x.it) := fun H enc w spare held fuel cs x h => by
  obtain ⟨hl, hf⟩ := opensA_fields Tryz.underlying153 cellsStored h
  obtain ⟨n0, y0, h0⟩ := hf 0 _ _ _ rfl cellsString
  obtain ⟨n1, y1, h1⟩ := hf 1 _ _ _ rfl cellsString
  obtain ⟨n2, y2, h2⟩ := hf 2 _ _ _ rfl cellsInt64
  obtain ⟨x0, c0, o0⟩ := opString _ _ _ _ _ _ _ _ h0
  obtain ⟨x1, c1, o1⟩ := opString _ _ _ _ _ _ _ _ h1
  obtain ⟨x2, c2, o2⟩ := opInt64 _ _ _ _ _ _ _ _ h2
  match cs, hl with
  | [a0, a1, a2], _ =>
    exact ⟨⟨x0, x1, x2⟩, ⟨c0.1, c1.1, c2.1, trivial⟩, o0, o1, o2⟩
theorem cellsStoredS : Tryz.prog.cellsOf 64 = 1 := by kernel_rfl
theorem opStoredS : OpensA Tryz.prog 64 (fun xs : List DStored => [.row true 3 (xs.map DStored.enc)]) (fun x : List DStored => x.length ≤ 9223372036854775807 ∧ ∀ y ∈ x, y.it) := opensA_slice Tryz.underlying64 cellsStored (by decide) (fun _ => rfl) (fun _ => rfl) opStored
theorem cellsDrive : Tryz.prog.cellsOf 66 = 2 := by kernel_rfl
theorem opDrive : OpensA Tryz.prog 66 DDrive.enc (fun x : DDrive => x.it) := fun H enc w spare held fuel cs x h => by
  obtain ⟨hl, hf⟩ := opensA_fields Tryz.underlying66 cellsDrive h
  obtain ⟨n0, y0, h0⟩ := hf 0 _ _ _ rfl cellsStoredS
  obtain ⟨n1, y1, h1⟩ := hf 1 _ _ _ rfl cellsInt64
  obtain ⟨x0, c0, o0⟩ := opStoredS _ _ _ _ _ _ _ _ h0
  obtain ⟨x1, c1, o1⟩ := opInt64 _ _ _ _ _ _ _ _ h1
  match cs, hl with
  | [a0, a1], _ =>
    exact ⟨⟨x0, x1⟩, ⟨c0.1, c1.1, trivial⟩, o0, o1⟩
theorem cellsDriveS : Tryz.prog.cellsOf 22 = 1 := by kernel_rfl
theorem opDriveS : OpensA Tryz.prog 22 (fun xs : List DDrive => [.row true 2 (xs.map DDrive.enc)]) (fun x : List DDrive => x.length ≤ 9223372036854775807 ∧ ∀ y ∈ x, y.it) := opensA_slice Tryz.underlying22 cellsDrive (by decide) (fun _ => rfl) (fun _ => rfl) opDrive
theorem cellsArray : Tryz.prog.cellsOf 24 = 3 := by kernel_rfl
theorem opArray : OpensA Tryz.prog 24 DArray.enc (fun x : DArray => x.it) := fun H enc w spare held fuel cs x h => by
  obtain ⟨hl, hf⟩ := opensA_fields Tryz.underlying24 cellsArray h
  obtain ⟨n0, y0, h0⟩ := hf 0 _ _ _ rfl cellsInt64
  obtain ⟨n1, y1, h1⟩ := hf 1 _ _ _ rfl cellsInt64
  obtain ⟨n2, y2, h2⟩ := hf 2 _ _ _ rfl cellsDriveS
  obtain ⟨x0, c0, o0⟩ := opInt64 _ _ _ _ _ _ _ _ h0
  obtain ⟨x1, c1, o1⟩ := opInt64 _ _ _ _ _ _ _ _ h1
  obtain ⟨x2, c2, o2⟩ := opDriveS _ _ _ _ _ _ _ _ h2
  match cs, hl with
  | [a0, a1, a2], _ =>
    exact ⟨⟨x0, x1, x2⟩, ⟨c0.1, c1.1, c2.1, trivial⟩, o0, o1, o2⟩
end Go.Proofs.YthdejoipdgahiaaGreatDoor
namespace Go.Proofs.YthdejoipdgahiaaGreatDoor.fnExactMendSteps
open Go.ChangeShapes Go.WideShapes Go.ChangeAt Go.RowKit
open Go.ChangeMaps (open_string shut_string)
set_option linter.unusedVariables false
theorem own : ownKnob Tryz.prog.godebug = none := by kernel_rfl
theorem laidOut : laidOutB Tryz.prog = true := by kernel_rfl
theorem g0 : Tryz.prog.globalNamed "loop.example/g00259/impl.firstState" = some 0 := by kernel_rfl
theorem g1 : Tryz.prog.globalNamed "loop.example/g00259/impl.roots" = some 1 := by kernel_rfl
theorem g0t : (Tryz.prog.globals[0]?).map (·.type) = some 149 := by kernel_rfl
theorem g1t : (Tryz.prog.globals[1]?).map (·.type) = some 190 := by kernel_rfl
theorem c8 : Tryz.prog.cellsOf 149 = 8 := by kernel_rfl
theorem c64 : Tryz.prog.cellsOf 190 = 64 := by kernel_rfl
theorem c1 : Tryz.prog.cellsOf 148 = 1 := by kernel_rfl
def numsOf (l : List Value) : List Int := l.map fun v => match v with | .int _ n => n | _ => 0
theorem laidIs : Rows.fnExactMendStepsRow.laid = [("loop.example/g00259/impl.firstState", Lib.tabData .u32 (numsOf gv0)), ("loop.example/g00259/impl.roots", Lib.tabData .u32 (numsOf gv1))] := by kernel_rfl
theorem gv0Is : gv0 = (numsOf gv0).map fun z => Value.int .u32 z := by kernel_rfl
theorem gv1Is : gv1 = (numsOf gv1).map fun z => Value.int .u32 z := by kernel_rfl
theorem tables {W : World} (h : laidMetH Tryz.prog Rows.fnExactMendStepsRow.laid W) : W.var? Tryz.prog "loop.example/g00259/impl.firstState" = some gv0.toArray ∧ W.var? Tryz.prog "loop.example/g00259/impl.roots" = some gv1.toArray := by
  rw [laidIs] at h
  have h' : laidMet Tryz.prog [("loop.example/g00259/impl.firstState", Lib.tabData .u32 (numsOf gv0)), ("loop.example/g00259/impl.roots", Lib.tabData .u32 (numsOf gv1))] W := h
  have e0 := Lib.tabIs_of_head (rest := [("loop.example/g00259/impl.roots", Lib.tabData .u32 (numsOf gv1))]) g0 g0t Tryz.underlying149 Tryz.underlying148 c1 c8 h'
  obtain ⟨ps, ⟨_, _, _, _, _, _, _, _, _, _, ⟨g', t', cs, fuel, p, q, hg', ht', hvar, hd, _, _⟩, _⟩, _⟩ := h'
  obtain rfl := Option.some.inj (g1.symm.trans hg')
  obtain rfl := Option.some.inj (g1t.symm.trans ht')
  refine ⟨?_, ?_⟩
  · have : W.var? Tryz.prog "loop.example/g00259/impl.firstState" = some ((numsOf gv0).map fun z => Value.int .u32 z).toArray := e0
    rw [this, ← gv0Is]
  · have hc := Lib.cells_of_tab Tryz.underlying190 Tryz.underlying148 c1 c64 hd
    rw [hvar, gv1Is, ← hc]
theorem glw {W : World} (h : laidMetH Tryz.prog Rows.fnExactMendStepsRow.laid W) : GlW W (fun k => k < W.heap.size) := by
  obtain ⟨e0, e1⟩ := tables h
  have key : ∀ (n : String) (g : Nat) (xs : List Value), Tryz.prog.globalNamed n = some g → W.var? Tryz.prog n = some xs.toArray → (∀ v ∈ xs, v.oneCell' = true) → g < W.heap.size ∧ g < W.heap.size ∧ ∀ (j : Nat) (v : Value), xs[j]? = some v → W.cell? ⟨g, j, none⟩ = some v ∧ v.oneCell' = true := by
    intro n g xs hg hv h1
    have hlt : g < W.heap.size := by
      simp only [World.var?, hg, Option.bind_some] at hv
      cases hh : W.heap[g]? with
      | none => rw [hh] at hv; cases hv
      | some o => exact (Array.getElem?_eq_some_iff.1 hh).1
    refine ⟨hlt, hlt, fun j v hj => ⟨?_, h1 v (List.mem_of_getElem? hj)⟩⟩
    have := World.var?_cell hg hv j
    rw [this]; simpa using hj
  intro g xs hg
  match g, hg with
  | 0, hg => cases hg; exact key _ 0 gv0 g0 e0 (fun v hv => by rw [gv0Is] at hv; obtain ⟨z, _, rfl⟩ := List.mem_map.1 hv; rfl)
  | 1, hg => cases hg; exact key _ 1 gv1 g1 e1 (fun v hv => by rw [gv1Is] at hv; obtain ⟨z, _, rfl⟩ := List.mem_map.1 hv; rfl)
  | g + 2, hg => cases hg
theorem vRowed : varsRowed Tryz.prog Rows.fnExactMendStepsSpec.vars = true := by kernel_rfl
def wArgs : Array Value := #[.agg #[.int .i64 0, .int .i64 0, .slice none 0 0], .int .i64 0, .string .empty]
set_option maxRecDepth 100000 in
set_option maxHeartbeats 4000000 in
theorem contract (H : Type) (enc : TypeId × Value → H) (W : World) (base : Nat) (args : Array Value) (ds gs : List (DataW H)) (before : List MemPlace)
    (hval0 : ∀ (j : Nat) t v, Tryz.f3.params[j]? = some t → args[j]? = some v → Value.okWide Tryz.prog W .any base t v)
    (hW : DataW.Whole enc Tryz.prog Tryz.f3.params.toList Rows.fnExactMendStepsSpec.vars false W args.toList ds gs before) (hL : laidMetH Tryz.prog Rows.fnExactMendStepsRow.laid W) :
    Calls Tryz.prog 3 args W fun e W' => ∃ v, e = .returned v ∧ Rows.fnExactMendStepsSpec.post enc Tryz.prog Tryz.f3 false true false false W args v W' := by
  have hval : ∀ (j : Nat) t v, Tryz.f3.params[j]? = some t → args[j]? = some v → Value.okWide Tryz.prog W .any base t v := hval0
  have hW' := hW
  obtain ⟨p, q, hA0, hV, rfl, hfz, hnd⟩ := hW
  have hA : DataW.TrodAll enc Tryz.prog W 0 (fun _ => true) true Tryz.f3.params.toList args.toList ds p := hA0
  rw [Tryz.params3] at hA hval
  obtain ⟨v0, vs0, d0, ds0, p0, q0, hargs, rfl, rfl, h0, r0⟩ := trodAll_cons hA
  obtain ⟨v1, vs1, d1, ds1, p1, q1, rfl, rfl, rfl, h1, r1⟩ := trodAll_cons r0
  obtain ⟨v2, vs2, d2, ds2, p2, q2, rfl, rfl, rfl, h2, r2⟩ := trodAll_cons r1
  obtain ⟨rfl, rfl, rfl⟩ := trodAll_nil r2
  obtain rfl : args = #[v0, v1, v2] := by cases args; simp_all
  obtain ⟨g0', t0', cs0', f0', d0', p0', g1', t1', cs1', f1', d1', p1', rfl, _, _, _, _, _, _, _, _, hq⟩ := trodVars_two hV
  obtain ⟨cs0, rfl, hc0⟩ := okWide_struct Tryz.underlying24 (hval 0 24 v0 rfl rfl)
  have k0 := h0
  have lt0 : ∀ x ∈ p0, x.block < W.heap.size := by obtain ⟨m, hm⟩ := k0; exact DataW.trod_lt m _ _ _ hm
  obtain ⟨x0, C0, ok0⟩ : ∃ y : DArray, RL (cAll W) W (DArray.enc y) cs0.toList ∧ y.it := by
    obtain ⟨fuel, hf⟩ := h0
    exact opArray _ _ _ _ _ _ _ _ hf
  obtain ⟨w1, rfl⟩ := okWide_int Tryz.underlying2 (hval 1 2 v1 rfl rfl)
  have k1 := h1
  have lt1 : ∀ x ∈ p1, x.block < W.heap.size := by obtain ⟨m, hm⟩ := k1; exact DataW.trod_lt m _ _ _ hm
  obtain ⟨x1, C1, ok1⟩ : ∃ y : Int, RL (cAll W) W ((fun n : Int => [.lit (.int .i64 n)]) y) [.int .i64 w1] ∧ inI y := by
    obtain ⟨fuel, hf⟩ := h1
    exact opInt64 _ _ _ _ _ _ _ _ hf
  obtain ⟨w2, rfl⟩ := okWide_string Tryz.underlying9 (hval 2 9 v2 rfl rfl)
  have k2 := h2
  have lt2 : ∀ x ∈ p2, x.block < W.heap.size := by obtain ⟨m, hm⟩ := k2; exact DataW.trod_lt m _ _ _ hm
  obtain ⟨x2, C2, ok2⟩ : ∃ y : ByteArray, RL (cAll W) W ((fun s : ByteArray => [.lit (.string s)]) y) [.string w2] ∧ y.size ≤ 9223372036854775807 := by
    obtain ⟨fuel, hf⟩ := h2
    exact opString _ _ _ _ _ _ _ _ hf
  clear hA0 hval0
  refine ((fnExactMendSteps_c x0 ok0 x1 ok1 x2 ok2).2.2 W (fun k => k < W.heap.size) #[.agg cs0, .int .i64 w1, .string w2] (fun _ h => h) (glw hL) ⟨C0, C1.1, C2.1, trivial⟩).mono fun e W' ⟨v, F, he, hr, _, bel⟩ => ?_
  replace bel := bel.below
  obtain ⟨hr, _⟩ := hr
  obtain rfl : v = .bool true := by
    cases hr with
    | plain _ h _ => cases h; rfl
  subst he
  exact ⟨_, rfl, _, _, _, [], _, q, hW', trodAll_mk1 (shut_bool Tryz.underlying4 _), (trodAll_cons_mk (Below.trod laidOut (by kernel_rfl) (of_decide_eq_true (by kernel_rfl)) k0 bel lt0) (trodAll_cons_mk (Below.trod laidOut (by kernel_rfl) (of_decide_eq_true (by kernel_rfl)) k1 bel lt1) (trodAll_cons_mk (Below.trod laidOut (by kernel_rfl) (of_decide_eq_true (by kernel_rfl)) k2 bel lt2) trodAll_mk0))), Below.trodVars laidOut bel vRowed hV, bel.frame _, fun h => by cases h⟩
def layV (xs : List Value) : Obj → Obj
  | .cells _ t frozen => .cells xs.toArray t frozen
  | o => o
noncomputable def laidWorld (os : Os) : World :=
  { World.holding Tryz.prog os ⟨#[], #[], []⟩ with heap := (Array.modify (Array.modify (World.holding Tryz.prog os ⟨#[], #[], []⟩).heap 0 (layV gv0)) 1 (layV gv1)) }
theorem laid_met (os : Os) : laidMet Tryz.prog Rows.fnExactMendStepsRow.laid ((laidWorld os).forCall (fun _ _ => 0) ⟨#[], wArgs, []⟩).memory :=
  laidMet_of_run' 8 (by kernel_rfl) (by kernel_rfl)
theorem reads (os : Os) {H : Type} (enc : TypeId × Value → H) : ∃ x, DataW.whole enc Tryz.prog ((laidWorld os).forCall (fun _ _ => 0) ⟨#[], wArgs, []⟩).memory Tryz.f3.params.toList Rows.fnExactMendStepsSpec.vars false wArgs.toList 8 = some x :=
  Option.isSome_iff_exists.1 (by kernel_rfl)
set_option maxRecDepth 100000 in
theorem lifted (os : Os) (started : os.Started) (H : Type) (enc : TypeId × Value → H) (F : Stop.Interp) :
    ReturnsInHanded {} Tryz.checked os 3 .any ((OpenSpec.ofChange Rows.fnExactMendStepsSpec).preRow enc Tryz.prog Tryz.f3 Rows.fnExactMendStepsRow.domain false Rows.fnExactMendStepsRow.laid) (((OpenSpec.ofChange Rows.fnExactMendStepsSpec).at F).post enc Tryz.prog Tryz.f3 false true false false) := by
  obtain ⟨x, hx⟩ := reads os enc
  refine returnsInHanded_of_row (C := Tryz.checked) (s := OpenSpec.ofChange Rows.fnExactMendStepsSpec) own started (by kernel_rfl) Tryz.func3
    (witness_row_at (enc := enc) (C := Tryz.checked) false (laidWorld os) wArgs rfl (by kernel_rfl) (by kernel_rfl) (by kernel_rfl)
      (OpenSpec.preRow_of_cond 8 hx rfl (fun k hk => by cases hk) (by kernel_rfl) (laid_met os))) ?_
  intro W base args ds gs before hval hW _ _ _ hL _ _
  exact contract H enc W base args ds gs before hval hW hL
set_option maxRecDepth 100000 in
theorem said : Rows.FnExactMendStepsSaid :=
  OpenClaim.holds_of_cond 3 Tryz.f3 rfl rfl rfl rfl rfl rfl rfl ⟨rfl, rfl, rfl, rfl, rfl⟩ rfl rfl rfl rfl rfl (by kernel_rfl) Tryz.func3 closed
    (of_decide_eq_true (by kernel_rfl)) (by unfold Func.isWrapper; first | (rw [if_pos (by decide +kernel)]; kernel_rfl) | (rw [if_neg (by decide +kernel)]; exact ⟨rfl, rfl⟩))
    (fun os started H enc _ F => by rw [OpenClaim.pre_eq_preRow]; exact lifted os started H enc F)
set_option maxRecDepth 100000 in
theorem plain (f : FuncId) (fn : Func) (hf : Tryz.pinned.checked.prog.funcNamed "loop.example/g00259/laws.FnExactMendSteps" = some f) (hfn : Tryz.pinned.checked.prog.funcs[f]? = some fn) :
    false = Tryz.pinned.checked.prog.looks [] ∧ ∀ (j : Nat) t, fn.params[j]? = some t → Tryz.pinned.checked.prog.wantsStandIn t = false := by
  obtain rfl : f = 3 := Option.some.inj ((show Tryz.prog.funcNamed "loop.example/g00259/laws.FnExactMendSteps" = some 3 by kernel_rfl).symm.trans hf) |>.symm
  obtain rfl : fn = Tryz.f3 := (Option.some.inj (Tryz.func3.symm.trans hfn)).symm
  refine ⟨by kernel_rfl, fun j t ht => ?_⟩
  rw [Tryz.params3] at ht
  have hm := Array.mem_of_getElem? ht
  simp only [List.mem_toArray, List.mem_cons, List.not_mem_nil, or_false] at hm
  have w0 : Tryz.prog.wantsStandIn 24 = false := by kernel_rfl
  have w1 : Tryz.prog.wantsStandIn 2 = false := by kernel_rfl
  have w2 : Tryz.prog.wantsStandIn 9 = false := by kernel_rfl
  rcases hm with rfl | rfl | rfl <;> assumption
set_option maxRecDepth 100000 in
theorem card : Rows.FnExactMendStepsCardSaid :=
  Claim7.holds_tied_plain_at .later [] _ _ _ _ said (fun _ h => by cases h) (by kernel_rfl) (fun _ h => by cases h) fnExactMendSteps_row_tie rfl ⟨rfl, rfl⟩ (by kernel_rfl) rfl plain (by kernel_rfl)
end Go.Proofs.YthdejoipdgahiaaGreatDoor.fnExactMendSteps
namespace Go.Proofs.YthdejoipdgahiaaGreatDoor
theorem fnExactMendSteps_holds : Rows.FnExactMendStepsCardSaid := fnExactMendSteps.card
end Go.Proofs.YthdejoipdgahiaaGreatDoor
