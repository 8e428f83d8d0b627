/- slices.Delete at []Stored: what it does in memory. -/
import Derived.Test.YtlijeincckbdaaaI1
namespace Go.Proofs.Ytlijeincckbdaaa
open Go.RowKit
set_option linter.unusedSimpArgs false
set_option linter.unusedVariables false
set_option maxRecDepth 100000
set_option maxHeartbeats 4000000

theorem delStored_h : DelH Try.prog 191 3 := by
  refine ⟨⟨_, Try.func191, by kernel_rfl, by kernel_rfl⟩, fun w X b C m cap i hR him h1C => ?_⟩
  rcases hR with ⟨_, rfl, _⟩ | ⟨e0, fz, A, hC, hfz, rfl, hA, hmc, hcm, hsz⟩
  · omega
  obtain rfl := hA (by omega)
  obtain ⟨inf, z, hu, hi, hs, hb, hz, hzs⟩ := tyStored
  have hz1 : ∀ v ∈ z.cells.toList, v.oneCell' = true := by
    have : inf.zero = some (.agg #[.string .empty, .string .empty, .int .i64 0]) := by
      have : Try.prog.info? 65 = some inf := hi
      cases this; rfl
    rw [hz] at this; cases this
    intro v hv
    simp [Value.cells] at hv
    rcases hv with rfl | rfl | rfl <;> rfl
  have hmx' : (m : Int) ≤ 9223372036854775807 := by simp only [maxLen] at hcm; omega
  obtain ⟨hp1, hp2⟩ := olds_cells hC ((i + 1) * 3) ((m - (i + 1)) * 3) (by omega)
  have h1n : ∀ v ∈ (C.toList.drop ((i + 1) * 3)).take ((m - (i + 1)) * 3), v.oneCell' = true := fun v hv => h1C v (by
    rw [show m * 3 = (i + 1) * 3 + (m - (i + 1)) * 3 by omega, List.take_add]
    exact List.mem_append_right _ hv)
  -- the append
  have ha := fun (a : Addr) ty sc (h : 0 < m - (i + 1) → a = ⟨b, (i + 1) * 3, none⟩) => run_append_place (P := Try.prog) (w := w.drew) (ty := ty) hu hi hC hfz (a := a) (m := m - (i + 1)) (c := sc) (news := (C.toList.drop ((i + 1) * 3)).take ((m - (i + 1)) * 3)) (sLen := i) (sCap := cap) (by rw [hs]; exact hp1) (fun j v hj => by
    have hj1 := (List.getElem?_eq_some_iff.1 hj).1
    rw [hp1] at hj1
    rw [h (by omega)]
    exact hp2 j v hj) h1n (by omega) (by rw [hs, hp1, hsz]; omega)
  rw [hp1, hs] at ha
  obtain ⟨C2, hC2⟩ : ∃ C2, C2 = (C.toList.take (i * 3) ++ (C.toList.drop ((i + 1) * 3)).take ((m - (i + 1)) * 3) ++ C.toList.drop (i * 3 + (m - (i + 1)) * 3)).toArray := ⟨_, rfl⟩
  obtain ⟨W2, hW2⟩ : ∃ W2, W2 = w.drew.setRow b C2 := ⟨_, rfl⟩
  simp only [← hC2, ← hW2, show i + (m - (i + 1)) = m - 1 by omega] at ha
  have hC2s : C2.size = C.size := by rw [hC2]; simp [hp1]; omega
  have hnew2 : W2.heap[b]? = some (.cells C2 e0 fz) := by rw [hW2]; exact setRow_heap w.drew _ C _ _ _ hC
  -- the clear
  have hc := fun ty cp => run_clear_place (P := Try.prog) (w := W2) (ty := ty) hu hi hz (g := b) (o := (m - 1) * 3) (m := m - (m - 1)) (cap := cp) hnew2 (sz := 3) (fun q hq => hfz q (by omega)) (by omega) hz1 (by rw [hzs, hC2s, hsz]; omega)
  rw [hzs] at hc
  generalize hzc : z.cells = zc at hc hzs hz1
  obtain ⟨C3, hC3⟩ : ∃ C3, C3 = (C2.toList.take ((m - 1) * 3) ++ (Builtin.zeroCells zc (m - (m - 1))).toList ++ C2.toList.drop ((m - 1) * 3 + (m - (m - 1)) * 3)).toArray := ⟨_, rfl⟩
  obtain ⟨W3, hW3⟩ : ∃ W3, W3 = W2.setRow b C3 := ⟨_, rfl⟩
  simp only [← hC3, ← hW3] at hc
  have hzl : (Builtin.zeroCells zc (m - (m - 1))).toList.length = 3 := by rw [Array.length_toList, size_zeroCells, hzs]; omega
  have fin : ∃ A' C' e' fz', (Ending.returned (.slice (some ⟨b, 0, none⟩) (m - 1) cap) : Ending) = .returned (.slice A' (m - 1) cap) ∧ Keeps (fun q => q = b) w W3 ∧ W3.heap[b]? = some (.cells C' e' fz') ∧ Unfz 3 C' fz' ∧
      C'.size = cap * 3 ∧ A' = some ⟨b, 0, none⟩ ∧ C'.toList.take ((m - 1) * 3) = C.toList.take (i * 3) ++ (C.toList.drop ((i + 1) * 3)).take ((m - 1 - i) * 3) := by
    have hC3s : C3.size = C.size := by rw [hC3]; simp [hzl]; omega
    refine ⟨_, C3, e0, fz, rfl, ⟨?_, ?_, ?_, ?_, fun q hq hq2 => ?_⟩, ?_, fun q hq => hfz q (by omega), by omega, rfl, ?_⟩
    · rw [hW3, hW2]; rfl
    · rw [hW3, hW2]; rfl
    · rw [hW3, hW2]; rfl
    · rw [hW3, hW2]; simp
    · rw [hW3, setRow_other W2 _ q _ hq2, hW2]; exact setRow_other w.drew _ q _ hq2
    · rw [hW3]; exact setRow_heap W2 _ C2 _ _ _ hnew2
    · rw [hC3]
      simp only [List.append_assoc]
      refine (List.take_left' (by simp; omega)).trans ?_
      rw [hC2, show m - 1 - i = m - (i + 1) by omega]
      exact List.take_left' (by simp [hp1]; omega)
  clear hzc hz hC2 hW2 hC3 hW3 hnew2 hp2 h1n h1C hz1
  have mixed := mix
  have hw1 : IntKind.i64.wrap ((i : Int) + 1) = (i : Int) + 1 := by rw [IntKind.wrap_i64]; omega
  have hb1 : (0 : Int) ≤ (i : Int) + 1 := by omega
  have htn : ((i : Int) + 1).toNat = i + 1 := by omega
  have hb3 : (i : Int) + 1 ≤ (m : Int) := by omega
  have hb3' : (i : Int) ≤ (i : Int) + 1 := by omega
  have hb3'' : i ≤ i + 1 := by omega
  have hb4 : ¬ (cap = i) := by omega
  have hb4' : ¬ (m = i) := by omega
  have hb5 : i ≤ m := by omega
  have hb6 : (i : Int) ≤ (m : Int) := by omega
  have hb7 : ¬ ((i : Int) = (i : Int) + 1) := by omega
  have hb8 : i + 1 ≤ m := by omega
  have hic : i ≤ cap := by omega
  have hjc : i + 1 ≤ cap := by omega
  have hm1 : m - 1 ≤ m := by omega
  have hm2 : m - 1 ≤ cap := by omega
  have hm3 : ¬ (cap = m - 1) := by omega
  by_cases hcap : cap = i + 1
  · subst hcap
    have ha1 := fun ty => ha ⟨b, 0, none⟩ ty 0 (fun h => by omega)
    clear ha
    go_enter Try.func191, Try.ntmps191
    go_wp2_with fail
    go_region_law_o (refine step_app_at rfl _ _ 26 26 rfl _ _ (by simp [Act.eval, Act.put]) (by simp [Act.eval, Act.put]; try omega) (ha1 _) ?_)
    go_wp2_with (at_builtin; refine wpList_clear_at _ rfl _ _ rfl _ rfl (hc _ _) ?_)
    go_ret
    exact fin
  · have ha1 := fun ty => ha ⟨b, (i + 1) * 3, none⟩ ty (cap - (i + 1)) (fun _ => rfl)
    clear ha
    go_enter Try.func191, Try.ntmps191
    go_wp2_with fail
    go_region_law_o (refine step_app_at rfl _ _ 26 26 rfl _ _ (by simp [Act.eval, Act.put]) (by simp [Act.eval, Act.put]; try omega) (ha1 _) ?_)
    go_wp2_with (at_builtin; refine wpList_clear_at _ rfl _ _ rfl _ rfl (hc _ _) ?_)
    go_ret
    exact fin
end Go.Proofs.Ytlijeincckbdaaa
