/- Regions that are walked in another order than their text's. -/
import Derived.Test.YtlijeincckbdaaaQT
import Derived.Test.YtlijeincckbdaaaQc
import Derived.Test.YtlijeincckbdaaaQd
import Derived.Lib.Overlaps
import Derived.Lib.AppendZeros
import Derived.Shelf.RegionOpenPlain
import Derived.Test.YtlijeincckbdaaaQh
namespace Go.Proofs.Ytlijeincckbdaaa
/-- spec.DrawDriveDo -/
def tbO33 : Tab := tbF [(3, .take 1 (.alt 0 (.seq [2, 3, 4]) (.alt 2 (.seq [0, 3, 4]) (.none))))]
/-- spec.DrawKeep -/
def tbO70 : Tab := tbF [(3, .take 1 (.alt 0 (.seq [2, 3, 4]) (.alt 2 (.seq [0, 3, 4]) (.none))))]
/-- (*spec.l01Src).l08Drive -/
def tbO113 : Tab := tbF [(5, .take 1 (.alt 0 (.alt 2 (.seq [3, 4, 5]) (.alt 4 (.seq [2, 3, 5]) (.none))) (.alt 2 (.seq [0, 3, 4, 5]) (.alt 4 (.alt 0 (.seq [2, 3, 5]) (.alt 2 (.seq [0, 3, 5]) (.none))) (.none))))), (17, .take 0 (.take 2 (.alt 1 (.seq [3, 4, 5, 6, 7]) (.alt 3 (.seq [4, 1, 5, 6, 7]) (.none))))), (21, .take 0 (.take 3 (.alt 1 (.alt 2 (.seq [4, 5, 6]) (.alt 4 (.seq [5, 2, 6]) (.none))) (.alt 4 (.seq [5, 1, 2, 6]) (.none))))), (10, .take 0 (.take 2 (.alt 1 (.seq [3, 4, 5, 6, 7, 8]) (.alt 3 (.seq [1, 4, 5, 6, 7, 8]) (.none)))))]
/-- spec.l13Keep -/
def tbO154 : Tab := tbF [(7, .take 0 (.take 1 (.take 4 (.take 5 (.take 9 (.take 10 (.alt 2 (.alt 3 (.alt 6 (.alt 7 (.alt 8 (.seq [11, 12, 13, 14]) (.alt 11 (.seq [8, 12, 13, 14]) (.none))) (.alt 11 (.seq [7, 8, 12, 13, 14]) (.none))) (.alt 11 (.seq [6, 7, 8, 12, 13, 14]) (.none))) (.alt 6 (.alt 3 (.alt 7 (.alt 8 (.seq [11, 12, 13, 14]) (.alt 11 (.seq [8, 12, 13, 14]) (.none))) (.alt 11 (.seq [7, 8, 12, 13, 14]) (.none))) (.alt 11 (.seq [3, 7, 8, 12, 13, 14]) (.none))) (.alt 11 (.seq [3, 6, 7, 8, 12, 13, 14]) (.none)))) (.alt 6 (.alt 2 (.alt 3 (.alt 7 (.alt 8 (.seq [11, 12, 13, 14]) (.alt 11 (.seq [8, 12, 13, 14]) (.none))) (.alt 11 (.seq [7, 8, 12, 13, 14]) (.none))) (.alt 11 (.seq [3, 7, 8, 12, 13, 14]) (.none))) (.alt 11 (.seq [2, 3, 7, 8, 12, 13, 14]) (.none))) (.alt 11 (.seq [2, 3, 6, 7, 8, 12, 13, 14]) (.none))))))))))]
/-- (*spec.l01Src).l13Snaps -/
def tbO160 : Tab := tbF [(6, .take 0 (.take 1 (.take 2 (.take 7 (.alt 3 (.alt 4 (.alt 5 (.seq [6, 8, 9, 10, 11, 12, 13]) (.alt 8 (.seq [5, 6, 9, 10, 11, 12, 13]) (.none))) (.alt 8 (.seq [4, 5, 6, 9, 10, 11, 12, 13]) (.none))) (.alt 8 (.seq [3, 4, 5, 6, 9, 10, 11, 12, 13]) (.none)))))))]
/-- spec.l08Out -/
def tbO193 : Tab := tbF [(1, .seq [1, 2, 3, 5, 6, 7, 8, 0, 4, 9, 10])]
/-- (*impl.Array).do -/
def tbO215 : Tab := tbF [(3, .seq [0, 4, 8, 1, 2, 3, 5, 6, 7, 9, 10, 11, 12, 13, 14, 15, 16])]
/-- spec.l05More -/
def tbO232 : Tab := tbF [(1, .seq [1, 4, 6, 8, 10, 11, 0, 2, 3, 5, 7, 9, 12, 13, 14, 15])]
/-- slices.Reverse[[]impl.Stored,impl.Stored] -/
def tbO243 : Tab := tbF [(3, .seq [0, 1, 2, 3, 4, 5, 6, 8, 9, 10, 7, 11, 12, 13, 14, 15])]
/-- slices.insertionSortCmpFunc[impl.Snap] -/
def tbO244 : Tab := tbF [(6, .seq [0, 1, 2, 3, 4, 5, 6, 7, 8, 10, 11, 12, 9, 13, 14, 15, 16, 17])]
/-- slices.heapSortCmpFunc[impl.Snap] -/
def tbO245 : Tab := tbF [(10, .seq [0, 1, 2, 3, 4, 5, 6, 7, 8, 9, 10, 12, 13, 14, 11, 15, 16, 17, 18, 19])]
/-- slices.breakPatternsCmpFunc[impl.Snap] -/
def tbO246 : Tab := tbF [(10, .seq [0, 1, 2, 3, 4, 5, 6, 7, 8, 9, 10, 12, 13, 14, 11, 15, 16, 17, 18, 19])]
/-- slices.reverseRangeCmpFunc[impl.Snap] -/
def tbO248 : Tab := tbF [(3, .seq [0, 1, 2, 3, 4, 5, 6, 8, 9, 10, 7, 11, 12, 13, 14, 15])]
/-- slices.partialInsertionSortCmpFunc[impl.Snap] -/
def tbO249 : Tab := tbF [(11, .seq [0, 1, 2, 3, 4, 5, 6, 7, 8, 10, 11, 12, 9, 13, 14, 15, 16, 17]), (17, .seq [0, 1, 2, 3, 4, 5, 6, 7, 8, 10, 11, 12, 9, 13, 14, 15, 16, 17]), (23, .seq [0, 1, 2, 3, 4, 5, 6, 7, 8, 10, 11, 12, 9, 13, 14, 15, 16, 17])]
/-- slices.partitionEqualCmpFunc[impl.Snap] -/
def tbO250 : Tab := tbF [(1, .seq [0, 1, 2, 3, 4, 5, 6, 8, 9, 10, 7, 11, 12, 13, 14, 15]), (8, .seq [0, 1, 2, 3, 4, 5, 6, 8, 9, 10, 7, 11, 12, 13, 14, 15])]
/-- slices.partitionCmpFunc[impl.Snap] -/
def tbO251 : Tab := tbF [(1, .seq [0, 1, 2, 3, 4, 5, 6, 8, 9, 10, 7, 11, 12, 13, 14, 15]), (8, .seq [0, 1, 2, 3, 4, 5, 6, 8, 9, 10, 7, 11, 12, 13, 14, 15]), (10, .seq [0, 1, 2, 3, 4, 5, 6, 8, 9, 10, 7, 11, 12, 13, 14, 15]), (18, .seq [0, 1, 2, 3, 4, 5, 6, 8, 9, 10, 7, 11, 12, 13, 14, 15]), (21, .seq [0, 1, 2, 3, 4, 5, 6, 8, 9, 10, 7, 11, 12, 13, 14, 15])]
/-- slices.siftDownCmpFunc[impl.Snap] -/
def tbO256 : Tab := tbF [(6, .seq [0, 1, 2, 3, 4, 5, 6, 7, 8, 9, 10, 11, 12, 14, 15, 16, 17, 18, 13, 19, 20, 21, 22, 23])]
end Go.Proofs.Ytlijeincckbdaaa
namespace Go.Proofs.Ytlijeincckbdaaa
open Go.RowKit
set_option linter.unusedSimpArgs false
set_option linter.unusedVariables false
set_option maxRecDepth 100000
set_option maxHeartbeats 4000000

theorem tyStored : ∃ inf : TypeInfo, ∃ z : Value, Try.prog.underlying 26 = some (.slice 65) ∧ Try.prog.info? 65 = some inf ∧ inf.size = 3 ∧ inf.bytes = 40 ∧ inf.zero = some z ∧ z.cells.size = 3 := by
  refine ⟨_, _, rfl, rfl, rfl, rfl, rfl, rfl⟩

theorem insNil (w : World) (D : Array Value) (vb k vc : Nat) (eD : TypeId) (fzD : Nat × Nat) (news : List Value) (hk : 0 < k) (hD : w.heap[vb]? = some (.cells D eD fzD)) (hkD : k * 3 ≤ D.size) (hnews : news = D.toList.take (k * 3))
    (hmx : k ≤ maxLen) (hby : k * 40 ≤ 140737488355328) :
    Calls Try.prog 190 #[.slice none 0 0, .int .i64 (0 : Nat), .slice (some ⟨vb, 0, none⟩) k vc] w fun e w' => e = .returned (.slice (some ⟨w.heap.size, 0, none⟩) k (grownCap w k 0 65)) ∧ ∃ zc : Array Value, zc.size = 3 ∧
      w' = w.drew.alloc (.cells (news.toArray ++ Builtin.zeroCells zc (grownCap w k 0 65 - k)) 65) := by
  obtain ⟨inf, z, hu, hi, hs, hb, hz, hzs⟩ := tyStored
  have hk1 : ¬ ((k : Int) = 0) := by omega
  have hmx' : (k : Int) ≤ 9223372036854775807 := by simp only [maxLen] at hmx; omega
  have hrun := fun ty => run_append_nil (P := Try.prog) w 26 ty 65 inf z hu hi hz ⟨vb, 0, none⟩ k vc news (by rw [hnews, hs]; simp; omega) (fun j v hj => by
    rw [Addr.add_lit, Nat.zero_add]
    simp only [World.cell?, hD, Option.isSome_none, Bool.false_eq_true, if_false]
    rw [hnews] at hj
    have hj1 := (List.getElem?_eq_some_iff.1 hj).1
    simp at hj1
    rw [List.getElem?_take, if_pos (by omega)] at hj
    simpa using hj) (by omega) hmx' (by rw [hb]; omega)
  generalize z.cells = zc at hrun hzs
  clear hz
  go_enter Try.func190, Try.ntmps190
  go_wp2_with (at_builtin; refine Lib.wpList_append_run _ rfl _ _ _ _ rfl _ _ rfl rfl _ _ (hrun _) ?_)
  go_ret
  exact ⟨rfl, _, hzs, by rw [hnews]; rfl⟩


/-- What v's cells are. -/
theorem news_cells {w : World} {D : Array Value} {vb k : Nat} {eD : TypeId} {fzD : Nat × Nat} {news : List Value} (hD : w.heap[vb]? = some (.cells D eD fzD)) (hkD : k * 3 ≤ D.size) (hnews : news = D.toList.take (k * 3)) :
    news.length = k * 3 ∧ ∀ j v, news[j]? = some v → w.cell? ((⟨vb, 0, none⟩ : Addr).add j) = some v := by
  refine ⟨by rw [hnews]; simp; omega, fun j v hj => ?_⟩
  rw [Addr.add_lit, Nat.zero_add]
  simp only [World.cell?, hD, Option.isSome_none, Bool.false_eq_true, if_false]
  rw [hnews] at hj
  have hj1 := (List.getElem?_eq_some_iff.1 hj).1
  simp at hj1
  rw [List.getElem?_take, if_pos (by omega)] at hj
  simpa using hj

theorem insEnd (w : World) (A : Option Addr) (b : Nat) (C : Array Value) (m cap : Nat) (e0 : TypeId) (fz : Nat × Nat) (D : Array Value) (vb k vc : Nat) (eD : TypeId) (fzD : Nat × Nat) (news : List Value)
    (hC : w.heap[b]? = some (.cells C e0 fz)) (hfz : Unfz 3 C fz) (hA : 0 < cap → A = some ⟨b, 0, none⟩) (hmc : m ≤ cap) (hcm : cap ≤ maxLen) (hsz : C.size = cap * 3) (hk : 0 < k) (hD : w.heap[vb]? = some (.cells D eD fzD)) (hkD : k * 3 ≤ D.size) (hnews : news = D.toList.take (k * 3))
    (h1 : ∀ v ∈ news, v.oneCell' = true) (hmx : m + k ≤ maxLen) (hroom : m + k ≤ cap) :
    Calls Try.prog 190 #[.slice A m cap, .int .i64 m, .slice (some ⟨vb, 0, none⟩) k vc] w fun e w' => e = .returned (.slice (some ⟨b, 0, none⟩) (m + k) cap) ∧
      w' = w.setRow b (C.toList.take (m * 3) ++ news ++ C.toList.drop (m * 3 + k * 3)).toArray := by
  obtain ⟨inf, z, hu, hi, hs, hb, hz, hzs⟩ := tyStored
  obtain rfl := hA (by omega)
  have hk1 : ¬ ((k : Int) = 0) := by omega
  obtain ⟨hl, hcells⟩ := news_cells hD hkD hnews
  have hrun := fun ty => run_append_place (P := Try.prog) (w := w) (ty := ty) hu hi hC hfz (a := ⟨vb, 0, none⟩) (m := k) (c := vc) (news := news) (sLen := m) (sCap := cap) (by rw [hs]; exact hl) hcells h1 hroom (by rw [hl, hs, hsz]; omega)
  rw [hl, hs] at hrun
  clear hz hcells h1 hfz
  go_enter Try.func190, Try.ntmps190
  go_wp2_with (at_builtin; refine Lib.wpList_append_run _ rfl _ _ _ _ rfl _ _ rfl rfl _ _ (hrun _) ?_)
  all_goals (go_ret; exact ⟨rfl, rfl⟩)


/-- What s's first cells are. -/
theorem olds_cells {w : World} {C : Array Value} {b : Nat} {e0 : TypeId} {fz : Nat × Nat} (hC : w.heap[b]? = some (.cells C e0 fz)) (o q : Nat) (hq : o + q ≤ C.size) :
    ((C.toList.drop o).take q).length = q ∧ ∀ j v, ((C.toList.drop o).take q)[j]? = some v → w.cell? ((⟨b, o, none⟩ : Addr).add j) = some v := by
  refine ⟨by simp; omega, fun j v hj => ?_⟩
  rw [Addr.add_lit]
  simp only [World.cell?, hC, Option.isSome_none, Bool.false_eq_true, if_false]
  have hj1 := (List.getElem?_eq_some_iff.1 hj).1
  simp at hj1
  rw [List.getElem?_take, if_pos (by omega)] at hj
  simpa using hj

theorem insGrowEnd (w : World) (b : Nat) (C : Array Value) (m cap : Nat) (e0 : TypeId) (fz : Nat × Nat) (D : Array Value) (vb k vc : Nat) (eD : TypeId) (fzD : Nat × Nat) (news : List Value) (g : Addr)
    (hg : 0 < m → g = ⟨b, 0, none⟩)
    (hC : w.heap[b]? = some (.cells C e0 fz)) (hmc : m ≤ cap) (hcm : cap ≤ maxLen) (hsz : C.size = cap * 3) (hk : 0 < k) (hD : w.heap[vb]? = some (.cells D eD fzD)) (hkD : k * 3 ≤ D.size) (hnews : news = D.toList.take (k * 3))
    (hmx : m + k ≤ maxLen) (hby : (m + k) * 40 ≤ 140737488355328) (hroom : cap < m + k) :
    Calls Try.prog 190 #[.slice (some g) m cap, .int .i64 m, .slice (some ⟨vb, 0, none⟩) k vc] w fun e w' => e = .returned (.slice (some ⟨w.heap.size, 0, none⟩) (m + k) (grownCap w (m + k) cap 65)) ∧ ∃ zc : Array Value, zc.size = 3 ∧
      w' = w.drew.alloc (.cells ((C.toList.take (m * 3)).toArray ++ news.toArray ++ Builtin.zeroCells zc (grownCap w (m + k) cap 65 - (m + k))) 65) := by
  obtain ⟨inf, z, hu, hi, hs, hb, hz, hzs⟩ := tyStored
  have hk1 : ¬ ((k : Int) = 0) := by omega
  obtain ⟨hl, hcells⟩ := news_cells hD hkD hnews
  obtain ⟨ho1, ho2⟩ := olds_cells hC 0 (m * 3) (by omega)
  simp only [List.drop_zero] at ho1 ho2
  have hmx' : ((m + k : Nat) : Int) ≤ 9223372036854775807 := by simp only [maxLen] at hmx; omega
  have hrun := fun ty => run_append_grow (P := Try.prog) w 26 ty 65 inf z hu hi hz g m cap (C.toList.take (m * 3)) (by rw [hs]; exact ho1) (fun j v hj => by
    have hj1 := (List.getElem?_eq_some_iff.1 hj).1
    rw [ho1] at hj1
    rw [hg (by omega)]
    exact ho2 j v hj) ⟨vb, 0, none⟩ k vc news (by rw [hs]; exact hl) hcells hroom hmx' (growslice_fits (by omega) (by rw [hb]; exact hby))
  generalize z.cells = zc at hrun hzs
  clear hz hcells ho2 hg
  go_enter Try.func190, Try.ntmps190
  go_wp2_with (at_builtin; refine Lib.wpList_append_run _ rfl _ _ _ _ rfl _ _ rfl rfl _ _ (hrun _) ?_)
  all_goals (go_ret; exact ⟨rfl, _, hzs, rfl⟩)


theorem insGrow (w : World) (b : Nat) (C : Array Value) (m cap i : Nat) (e0 : TypeId) (fz : Nat × Nat) (D : Array Value) (vb k vc : Nat) (eD : TypeId) (fzD : Nat × Nat) (news : List Value)
    (him : i < m) (hC : w.heap[b]? = some (.cells C e0 fz)) (hmc : m ≤ cap) (hcm : cap ≤ maxLen) (hsz : C.size = cap * 3) (hk : 0 < k) (hD : w.heap[vb]? = some (.cells D eD fzD)) (hkD : k * 3 ≤ D.size) (hnews : news = D.toList.take (k * 3))
    (h1 : ∀ v ∈ news, v.oneCell' = true) (h1C : ∀ v ∈ C.toList.take (m * 3), v.oneCell' = true) (hmx : m + k ≤ maxLen) (hby : (m + k) * 40 ≤ 140737488355328) (hroom : cap < m + k) :
    Calls Try.prog 190 #[.slice (some ⟨b, 0, none⟩) m cap, .int .i64 i, .slice (some ⟨vb, 0, none⟩) k vc] w fun e w' => e = .returned (.slice (some ⟨w.heap.size, 0, none⟩) (m + k) (grownCap w (m + k) cap 65)) ∧
      ∃ C' : Array Value, Keeps (fun _ => False) w w' ∧ w'.heap[w.heap.size]? = some (.cells C' 65 (0, 0)) ∧ C'.size = grownCap w (m + k) cap 65 * 3 ∧ C'.toList.take ((m + k) * 3) = C.toList.take (i * 3) ++ news ++ (C.toList.drop (i * 3)).take ((m - i) * 3) := by
  obtain ⟨inf, z, hu, hi, hs, hb, hz, hzs⟩ := tyStored
  have hge := grownCap_ge w (m + k) cap 65
  have hk1 : ¬ ((k : Int) = 0) := by omega
  obtain ⟨hl, hcells⟩ := news_cells hD hkD hnews
  obtain ⟨ho1, ho2⟩ := olds_cells hC 0 (i * 3) (by omega)
  simp only [List.drop_zero] at ho1 ho2
  obtain ⟨hp1, hp2⟩ := olds_cells hC (i * 3) ((m - i) * 3) (by omega)
  have hmx' : ((m + k : Nat) : Int) ≤ 9223372036854775807 := by simp only [maxLen] at hmx; omega
  have hq : i + (m + k - i) = m + k := by omega
  have hhu : Try.prog.underlying 3 = some (.int .i64) := rfl
  have hrun := fun ty qi (hqi : qi = ((m + k - i : Nat) : Int)) => run_append_grow_zeros (P := Try.prog) w 26 3 ty 65 inf z .i64 hu hhu hi hz ⟨b, 0, none⟩ i cap (C.toList.take (i * 3)) (by rw [hs]; exact ho1) ho2 (m + k - i) qi hqi (by omega) (by omega) (by omega) (by rw [hq]; exact hmx') (by rw [hb]; omega) (by rw [hq]; exact growslice_fits (by omega) (by rw [hb]; exact hby))
  simp only [hq] at hrun
  generalize hzc : z.cells = zc at hrun hzs
  have hzl : ∀ q, (Builtin.zeroCells zc q).size = q * 3 := fun q => by rw [size_zeroCells, hzs]
  obtain ⟨C1, hC1⟩ : ∃ C1, C1 = (C.toList.take (i * 3)).toArray ++ Builtin.zeroCells zc (m + k - i) ++ Builtin.zeroCells zc (grownCap w (m + k) cap 65 - (m + k)) := ⟨_, rfl⟩
  obtain ⟨W1, hW1⟩ : ∃ W1, W1 = w.drew.alloc (.cells C1 65) := ⟨_, rfl⟩
  simp only [← hC1, ← hW1] at hrun
  have hC1s : C1.size = grownCap w (m + k) cap 65 * 3 := by
    rw [hC1]
    simp only [Array.size_append, hzl, List.size_toArray, ho1]
    omega
  have hvb : vb < w.heap.size := by
    rcases Nat.lt_or_ge vb w.heap.size with e | e
    · exact e
    · simp [Array.getElem?_eq_none e] at hD
  have hbl : b < w.heap.size := by
    rcases Nat.lt_or_ge b w.heap.size with e | e
    · exact e
    · simp [Array.getElem?_eq_none e] at hC
  have hold1 : ∀ q, q < w.heap.size → W1.heap[q]? = w.heap[q]? := fun q hq => by rw [hW1]; exact (((Below.refl _ _).drew).alloc (by simp) _ : Below w.heap.size w _).block q hq
  have hnew1 : W1.heap[w.heap.size]? = some (.cells C1 65 (0, 0)) := by rw [hW1]; exact heap_alloc_new w.drew _
  have hu0 : ∀ C : Array Value, Unfz 3 C (0, 0) := fun C i _ => by simp
  have hcell1 : ∀ (W : World), (∀ q, q < w.heap.size → W.heap[q]? = w.heap[q]?) → ∀ a v, w.cell? a = some v → W.cell? a = some v := fun W hW a v h => by
    rw [World.cell?_of_block (hW a.block (World.block_lt_of_cell? w a h))]; exact h
  -- the first copy
  have hc1 := fun ty dc => run_copy_place (P := Try.prog) (w := W1) (ty := ty) hu hi (g := w.heap.size) (o := i * 3) (dLen := m + k - i) (dCap := dc) hnew1 (hu0 C1) (a := ⟨vb, 0, none⟩) (m := k) (c := vc) (news := news) (by rw [hs, hl, show Nat.min k (m + k - i) = k by simp only [Nat.min_def]; split <;> omega]) (fun j v hj => hcell1 W1 hold1 _ _ (hcells j v hj)) h1 (by rw [hC1s, hl]; omega)
  rw [hl] at hc1
  obtain ⟨C2, hC2⟩ : ∃ C2, C2 = (C1.toList.take (i * 3) ++ news ++ C1.toList.drop (i * 3 + k * 3)).toArray := ⟨_, rfl⟩
  obtain ⟨W2, hW2⟩ : ∃ W2, W2 = W1.setRow w.heap.size C2 := ⟨_, rfl⟩
  simp only [← hC2, ← hW2] at hc1
  have hC2s : C2.size = C1.size := by rw [hC2]; simp [hl]; omega
  have hnew2 : W2.heap[w.heap.size]? = some (.cells C2 65 (0, 0)) := by rw [hW2]; exact setRow_heap W1 _ C1 _ _ _ hnew1
  have hold2 : ∀ q, q < w.heap.size → W2.heap[q]? = w.heap[q]? := fun q hq => by rw [hW2, setRow_other W1 _ q _ (by omega)]; exact hold1 q hq
  -- the second
  have hc2 := fun ty dc sc => run_copy_place (P := Try.prog) (w := W2.drew) (ty := ty) hu hi (g := w.heap.size) (o := (i + k) * 3) (dLen := m + k - (i + k)) (dCap := dc) hnew2 (hu0 C2) (a := ⟨b, i * 3, none⟩) (m := m - i) (c := sc) (news := (C.toList.drop (i * 3)).take ((m - i) * 3)) (by rw [hs, hp1, show Nat.min (m - i) (m + k - (i + k)) = m - i by simp only [Nat.min_def]; split <;> omega]) (fun j v hj => hcell1 W2.drew hold2 _ _ (hp2 j v hj)) (fun v hv => h1C v (by
      rw [show m * 3 = i * 3 + (m - i) * 3 by omega, List.take_add]
      exact List.mem_append_right _ hv)) (by rw [hC2s, hC1s, hp1]; omega)
  rw [hp1] at hc2
  obtain ⟨C3, hC3⟩ : ∃ C3, C3 = (C2.toList.take ((i + k) * 3) ++ (C.toList.drop (i * 3)).take ((m - i) * 3) ++ C2.toList.drop ((i + k) * 3 + (m - i) * 3)).toArray := ⟨_, rfl⟩
  obtain ⟨W3, hW3⟩ : ∃ W3, W3 = W2.drew.setRow w.heap.size C3 := ⟨_, rfl⟩
  simp only [← hC3, ← hW3] at hc2
  have fin : ∃ C' : Array Value, Keeps (fun _ => False) w W3 ∧ W3.heap[w.heap.size]? = some (.cells C' 65 (0, 0)) ∧ C'.size = grownCap w (m + k) cap 65 * 3 ∧ C'.toList.take ((m + k) * 3) = C.toList.take (i * 3) ++ news ++ (C.toList.drop (i * 3)).take ((m - i) * 3) := by
    refine ⟨C3, ⟨?_, ?_, ?_, ?_, fun q hq _ => ?_, by rw [hW3, hW2, hW1]; (first | exact Nat.le_refl _ | exact Nat.le_succ _ | exact Nat.le_succ_of_le (Nat.le_succ _) | exact Nat.le_succ_of_le (Nat.le_succ_of_le (Nat.le_succ _)))⟩, ?_, ?_, ?_⟩
    · rw [hW3, hW2, hW1]; rfl
    · rw [hW3, hW2, hW1]; rfl
    · rw [hW3, hW2, hW1]; rfl
    · rw [hW3, hW2, hW1]; simp
    · rw [hW3, setRow_other W2.drew _ q _ (by omega)]; exact hold2 q hq
    · rw [hW3]; exact setRow_heap W2.drew _ C2 _ _ _ hnew2
    · rw [hC3]; simp [hp1]; omega
    · have t2 : C2.toList.take ((i + k) * 3) = C.toList.take (i * 3) ++ news := by
        rw [hC2, hC1]
        simp only [List.append_assoc]
        rw [← List.append_assoc]
        refine (List.take_left' (by simp [hl]; omega)).trans ?_
        congr 1
        rw [show (((C.toList.take (i * 3)).toArray ++ Builtin.zeroCells zc (m + k - i) ++ Builtin.zeroCells zc (grownCap w (m + k) cap 65 - (m + k))).toList) = C.toList.take (i * 3) ++ ((Builtin.zeroCells zc (m + k - i)).toList ++ (Builtin.zeroCells zc (grownCap w (m + k) cap 65 - (m + k))).toList) by simp]
        exact List.take_left' ho1
      rw [hC3, t2]
      refine List.take_left' ?_
      simp [hl]; omega
  clear hzc hz hC1 hW1 hC2 hW2 hC3 hW3 hnew1 hnew2 hold1 hold2 hcell1 hcells ho2 hp2
  go_enter Try.func190, Try.ntmps190
  go_wp2_with (at_builtin; first | refine Lib.wpList_append_run _ rfl _ _ _ _ rfl _ _ rfl rfl _ _ (hrun _ _ ?_) ?_ | refine wpList_copy_at _ rfl _ _ _ _ rfl _ _ rfl rfl (hc1 _ _) ?_)
  · omega
  have mixed := mix
  have hw1 : IntKind.i64.wrap ((i : Int) + (k : Int)) = (i : Int) + (k : Int) := by rw [IntKind.wrap_i64]; omega
  have hb1 : (0 : Int) ≤ (i : Int) + (k : Int) := by omega
  have htn : ((i : Int) + (k : Int)).toNat = i + k := by omega
  have hb2 : ¬ (grownCap w (m + k) cap 65 = i + k) := by omega
  have hb3 : (i : Int) + (k : Int) ≤ (m : Int) + (k : Int) := by omega
  have hb4 : ¬ (cap = i) := by omega
  have hb5 : i ≤ m := by omega
  have hb6 : (i : Int) ≤ (m : Int) := by omega
  go_region_law_o (refine step_copy_at rfl _ _ 26 26 rfl _ _ (by simp [Act.eval, Act.put]) (by simp [Act.eval, Act.put]) (hc2 _ _ _) ?_)
  go_wp2_with fail
  go_ret
  exact ⟨rfl, fin⟩


theorem insPlace (w : World) (b : Nat) (C : Array Value) (m cap i : Nat) (e0 : TypeId) (fz : Nat × Nat) (D : Array Value) (vb k vc : Nat) (eD : TypeId) (fzD : Nat × Nat) (news : List Value)
    (him : i < m) (hC : w.heap[b]? = some (.cells C e0 fz)) (hfz : Unfz 3 C fz) (hmc : m ≤ cap) (hcm : cap ≤ maxLen) (hsz : C.size = cap * 3) (hk : 0 < k) (hD : w.heap[vb]? = some (.cells D eD fzD)) (hfD : Unfz 3 D fzD) (hkD : k * 3 ≤ D.size) (hnews : news = D.toList.take (k * 3))
    (h1 : ∀ v ∈ news, v.oneCell' = true) (h1C : ∀ v ∈ C.toList.take (m * 3), v.oneCell' = true) (hvb : vb ≠ b) (hroom : m + k ≤ cap) :
    Calls Try.prog 190 #[.slice (some ⟨b, 0, none⟩) m cap, .int .i64 i, .slice (some ⟨vb, 0, none⟩) k vc] w fun e w' => e = .returned (.slice (some ⟨b, 0, none⟩) (m + k) cap) ∧
      ∃ C' : Array Value, Keeps (fun q => q = b) w w' ∧ w'.heap[b]? = some (.cells C' e0 fz) ∧ C'.size = C.size ∧ C'.toList.take ((m + k) * 3) = C.toList.take (i * 3) ++ news ++ (C.toList.drop (i * 3)).take ((m - i) * 3) := by
  obtain ⟨inf, z, hu, hi, hs, hb, hz, hzs⟩ := tyStored
  have hk1 : ¬ ((k : Int) = 0) := by omega
  obtain ⟨hl, hcells⟩ := news_cells hD hkD hnews
  obtain ⟨hp1, hp2⟩ := olds_cells hC (i * 3) ((m - i) * 3) (by omega)
  have hmx' : ((m + k : Nat) : Int) ≤ 9223372036854775807 := by simp only [maxLen] at hcm; omega
  have hbl : b < w.heap.size := by
    rcases Nat.lt_or_ge b w.heap.size with e | e
    · exact e
    · simp [Array.getElem?_eq_none e] at hC
  -- the first copy
  have hc1 := fun ty dc sc => run_copy_place (P := Try.prog) (w := w.drew) (ty := ty) hu hi (g := b) (o := (i + k) * 3) (dLen := m + k - (i + k)) (dCap := dc) hC hfz (a := ⟨b, i * 3, none⟩) (m := m + k - i) (c := sc) (news := (C.toList.drop (i * 3)).take ((m - i) * 3)) (by rw [hs, hp1, show Nat.min (m + k - i) (m + k - (i + k)) = m - i by simp only [Nat.min_def]; split <;> omega]) (fun j v hj => hp2 j v hj) (fun v hv => h1C v (by
      rw [show m * 3 = i * 3 + (m - i) * 3 by omega, List.take_add]
      exact List.mem_append_right _ hv)) (by rw [hsz, hp1]; omega)
  rw [hp1] at hc1
  obtain ⟨C2, hC2⟩ : ∃ C2, C2 = (C.toList.take ((i + k) * 3) ++ (C.toList.drop (i * 3)).take ((m - i) * 3) ++ C.toList.drop ((i + k) * 3 + (m - i) * 3)).toArray := ⟨_, rfl⟩
  obtain ⟨W2, hW2⟩ : ∃ W2, W2 = w.drew.setRow b C2 := ⟨_, rfl⟩
  simp only [← hC2, ← hW2] at hc1
  have hC2s : C2.size = C.size := by rw [hC2]; simp [hp1]; omega
  have hnew2 : W2.heap[b]? = some (.cells C2 e0 fz) := by rw [hW2]; exact setRow_heap w.drew _ C _ _ _ hC
  have hold2 : ∀ q, q ≠ b → W2.heap[q]? = w.heap[q]? := fun q hq => by rw [hW2]; exact setRow_other w.drew _ q _ hq
  have hf2 : Unfz 3 C2 fz := fun q hq => hfz q (by omega)
  -- the second
  have hc2 := fun ty dc => run_copy_place (P := Try.prog) (w := W2) (ty := ty) hu hi (g := b) (o := i * 3) (dLen := m + k - i) (dCap := dc) hnew2 hf2 (a := ⟨vb, 0, none⟩) (m := k) (c := vc) (news := news) (by rw [hs, hl, show Nat.min k (m + k - i) = k by simp only [Nat.min_def]; split <;> omega]) (fun j v hj => by rw [World.cell?_of_block (hold2 _ (by rw [Addr.add_lit]; exact hvb))]; exact hcells j v hj) h1 (by rw [hC2s, hsz, hl]; omega)
  rw [hl] at hc2
  obtain ⟨C3, hC3⟩ : ∃ C3, C3 = (C2.toList.take (i * 3) ++ news ++ C2.toList.drop (i * 3 + k * 3)).toArray := ⟨_, rfl⟩
  obtain ⟨W3, hW3⟩ : ∃ W3, W3 = W2.setRow b C3 := ⟨_, rfl⟩
  simp only [← hC3, ← hW3] at hc2
  have fin : ∃ C' : Array Value, Keeps (fun q => q = b) w W3 ∧ W3.heap[b]? = some (.cells C' e0 fz) ∧ C'.size = C.size ∧ C'.toList.take ((m + k) * 3) = C.toList.take (i * 3) ++ news ++ (C.toList.drop (i * 3)).take ((m - i) * 3) := by
    refine ⟨C3, ⟨?_, ?_, ?_, ?_, fun q hq hq2 => ?_, by rw [hW3, hW2]; (first | exact Nat.le_refl _ | exact Nat.le_succ _ | exact Nat.le_succ_of_le (Nat.le_succ _) | exact Nat.le_succ_of_le (Nat.le_succ_of_le (Nat.le_succ _)))⟩, ?_, ?_, ?_⟩
    · rw [hW3, hW2]; rfl
    · rw [hW3, hW2]; rfl
    · rw [hW3, hW2]; rfl
    · rw [hW3, hW2]; simp
    · rw [hW3, setRow_other W2 _ q _ hq2]; exact hold2 q hq2
    · rw [hW3]; exact setRow_heap W2 _ C2 _ _ _ hnew2
    · rw [hC3]; simp [hl]; omega
    · have t1 : C2.toList.take (i * 3) = C.toList.take (i * 3) := by
        rw [hC2]
        simp only [List.append_assoc]
        rw [List.take_append_of_le_length (by simp; omega), List.take_take, Nat.min_eq_left (by omega)]
      have t2 : (C2.toList.drop (i * 3 + k * 3)).take ((m - i) * 3) = (C.toList.drop (i * 3)).take ((m - i) * 3) := by
        rw [hC2, show i * 3 + k * 3 = (i + k) * 3 by omega]
        simp only [List.append_assoc]
        rw [List.drop_left' (by simp; omega)]
        exact List.take_left' hp1
      rw [hC3, t1, ← t2]
      show List.take ((m + k) * 3) (C.toList.take (i * 3) ++ news ++ C2.toList.drop (i * 3 + k * 3)) = _
      rw [List.take_append, List.take_of_length_le (by simp [hl]; omega)]
      congr 2
      simp [hl]; omega
  have hov : ∀ lb cb, (callFunc 220 #[.slice (some ⟨vb, 0, none⟩) k vc, .slice (some ⟨b, (i + k) * 3, none⟩) lb cb]).run Try.prog w = .ok (.value (.bool false)) w := fun lb cb => by
    have hfr : ∀ q, q < D.size + 1 → w.frozen? ⟨vb, q, none⟩ = false := fun q hq => by
      have := hfD q hq
      simp only [World.frozen?, hD]
      simpa using this
    rw [run_callFunc_extern Try.func220 (by kernel_rfl) (by kernel_rfl) (by kernel_rfl) (e := Extern.SlicesOverlaps.overlaps #[26, 26] #[4]) (by kernel_rfl),
      Lib.run_overlaps_apart w 26 4 65 hu 3 (fun w => by simp [sizeOf, typeInfo, hi, hs]) ⟨vb, 0, none⟩ ⟨b, (i + k) * 3, none⟩ k vc lb cb hvb eD e0 D.size C.size (by simp [World.shape?, hD]) (by simp [World.shape?, hC]) (by omega) (hfr 0 (by omega)) (hfr D.size (by omega))]
    rfl
  clear hz hC2 hW2 hC3 hW3 hnew2 hold2 hcells hp2 hf2
  have mixed := mix
  have hw1 : IntKind.i64.wrap ((i : Int) + (k : Int)) = (i : Int) + (k : Int) := by rw [IntKind.wrap_i64]; omega
  have hb1 : (0 : Int) ≤ (i : Int) + (k : Int) := by omega
  have htn : ((i : Int) + (k : Int)).toNat = i + k := by omega
  have hb2 : ¬ (cap = i + k) := by omega
  have hb3 : (i : Int) + (k : Int) ≤ (m : Int) + (k : Int) := by omega
  have hb3' : (i : Int) ≤ (m : Int) + (k : Int) := by omega
  have hb3'' : i ≤ m + k := by omega
  have hb4 : ¬ (cap = i) := by omega
  have hb5 : i ≤ m := by omega
  have hb6 : (i : Int) ≤ (m : Int) := by omega
  go_enter Try.func190, Try.ntmps190
  go_wp2_with (simp only [hov])
  go_region_law_o (refine step_copy_at rfl _ _ 26 26 rfl _ _ (by simp [Act.eval, Act.put]) (by simp [Act.eval, Act.put]) (hc1 _ _ _) ?_)
  go_wp2_with (at_builtin; refine wpList_copy_at _ rfl _ _ _ _ rfl _ _ rfl rfl (hc2 _ _) ?_)
  go_ret
  exact ⟨rfl, fin⟩


theorem unfz0 (C : Array Value) : Unfz 3 C (0, 0) := fun i _ => by simp

theorem insStored_h : InsH Try.prog 190 3 40 := by
  refine ⟨⟨_, Try.func190, by kernel_rfl, by kernel_rfl⟩, fun w X b C m cap i D vb k vc eD fzD news hR hi hk hD hfD hkD hnews h1 h1C hne hmx hby => ?_⟩
  obtain ⟨hl, _⟩ := news_cells hD hkD hnews
  have grow : ∀ (A : Option Addr), m + k ≤ grownCap w (m + k) cap 65 ∧ grownCap w (m + k) cap 65 ≤ maxLen := fun _ => ⟨grownCap_ge _ _ _ _, grownCap_le_maxLen _ _ _ _ hmx⟩
  have below : ∀ (C' : Array Value), Keeps (fun q => q = b) w (w.drew.alloc (.cells C' 65)) := fun C' =>
    have h : Below w.heap.size w (w.drew.alloc (.cells C' 65)) := ((Below.refl _ _).drew).alloc (by simp) _
    ⟨h.os, h.tape, h.output, h.size, fun q hq _ => h.block q hq, Nat.le_succ _⟩
  have hzl : ∀ (zc : Array Value) q, zc.size = 3 → (Builtin.zeroCells zc q).size = q * 3 := fun zc q h => by rw [size_zeroCells, h]
  -- onto nothing
  have nil : X = .slice none 0 0 → m = 0 → cap = 0 → C = #[] ∨ True → Calls Try.prog 190 #[X, .int .i64 i, .slice (some ⟨vb, 0, none⟩) k vc] w (InsQ w 3 b C m k i news) := by
    rintro rfl rfl rfl _
    obtain rfl : i = 0 := by omega
    refine (insNil w D vb k vc eD fzD news hk hD hkD hnews (by omega) (by omega)).mono ?_
    rintro e w' ⟨rfl, zc, hzc, rfl⟩
    have hg := grow none
    simp only [Nat.zero_add] at hg
    refine ⟨_, w.heap.size, _, _, _, _, by rw [Nat.zero_add], below _, heap_alloc_new w.drew _, unfz0 _, .inr (Nat.le_refl _), by rw [Nat.zero_add]; exact hg.1, hg.2, ?_, fun _ => rfl, ?_⟩
    · simp only [Array.size_append, hzl zc _ hzc, List.size_toArray, hl]; omega
    · simp only [Nat.zero_mul, List.take_zero, List.nil_append, Nat.zero_add, Nat.sub_zero, List.append_nil, Array.toList_append]
      exact List.take_left' hl
  rcases hR with ⟨rfl, rfl, rfl, rfl, rfl⟩ | ⟨e0, fz, A, hC, hfz, rfl, hA, hmc, hcm, hsz⟩
  · exact nil rfl rfl rfl (.inr trivial)
  by_cases hroom : m + k ≤ cap
  · obtain rfl := hA (by omega)
    by_cases him : i = m
    · subst him
      refine (insEnd w _ b C i cap e0 fz D vb k vc eD fzD news hC hfz hA hmc hcm hsz hk hD hkD hnews h1 hmx hroom).mono ?_
      rintro e w' ⟨rfl, rfl⟩
      refine ⟨_, b, cap, _, _, _, rfl, ⟨rfl, rfl, rfl, by simp, fun q _ hq => setRow_other w b q _ hq, Nat.le_refl _⟩, setRow_heap w b C _ _ _ hC, fun q hq => hfz q (by simp [hl] at hq; omega), .inl rfl, hroom, hcm, ?_, fun _ => rfl, ?_⟩
      · simp [hl]; omega
      · simp only [Nat.sub_self, Nat.zero_mul, List.take_zero, List.append_nil]
        exact List.take_left' (by simp [hl]; omega)
    · refine (insPlace w b C m cap i e0 fz D vb k vc eD fzD news (by omega) hC hfz hmc hcm hsz hk hD hfD hkD hnews h1 h1C hne hroom).mono ?_
      rintro e w' ⟨rfl, C', hK, hC', hs', ht⟩
      exact ⟨_, b, cap, C', _, _, rfl, hK, hC', fun q hq => hfz q (by omega), .inl rfl, hroom, hcm, by omega, fun _ => rfl, ht⟩
  · by_cases him : i = m
    · subst him
      cases A with
      | none =>
        have hc0 : cap = 0 := by
          rcases Nat.eq_zero_or_pos cap with e | e
          · exact e
          · exact absurd (hA e) (by simp)
        exact nil (by rw [hc0, show i = 0 by omega]) (by omega) hc0 (.inr trivial)
      | some g =>
        refine (insGrowEnd w b C i cap e0 fz D vb k vc eD fzD news g (fun h0 => by have := hA (by omega); simpa using this) hC hmc hcm hsz hk hD hkD hnews hmx hby (by omega)).mono ?_
        rintro e w' ⟨rfl, zc, hzc, rfl⟩
        refine ⟨_, w.heap.size, _, _, _, _, rfl, below _, heap_alloc_new w.drew _, unfz0 _, .inr (Nat.le_refl _), (grow none).1, (grow none).2, ?_, fun _ => rfl, ?_⟩
        · have := (grow none).1
          simp only [Array.size_append, hzl zc _ hzc, List.size_toArray, hl, List.length_take, Array.length_toList, hsz]
          omega
        · simp only [Nat.sub_self, Nat.zero_mul, List.take_zero, List.append_nil, Array.toList_append]
          exact List.take_left' (by simp [hl]; omega)
    · obtain rfl := hA (by omega)
      refine (insGrow w b C m cap i e0 fz D vb k vc eD fzD news (by omega) hC hmc hcm hsz hk hD hkD hnews h1 h1C hmx hby (by omega)).mono ?_
      rintro e w' ⟨rfl, C', hK, hC', hs', ht⟩
      exact ⟨_, w.heap.size, _, C', _, _, rfl, ⟨hK.os, hK.tape, hK.output, hK.size, fun q hq _ => hK.block q hq (fun h => h), hK.dr⟩, hC', unfz0 _, .inr (Nat.le_refl _), (grow none).1, (grow none).2, hs', fun _ => rfl, ht⟩

end Go.Proofs.Ytlijeincckbdaaa
namespace Go.Proofs.Ytlijeincckbdaaa
open Go.RowKit
set_option linter.unusedSimpArgs false
set_option linter.unusedVariables false
set_option maxRecDepth 100000
set_option maxHeartbeats 4000000

theorem delStored_h : DelH Try.prog 191 3 := by
  refine ⟨⟨_, Try.func191, by kernel_rfl, by kernel_rfl⟩, fun w X b C m cap i hR him h1C => ?_⟩
  rcases hR with ⟨_, rfl, _⟩ | ⟨e0, fz, A, hC, hfz, rfl, hA, hmc, hcm, hsz⟩
  · omega
  obtain rfl := hA (by omega)
  obtain ⟨inf, z, hu, hi, hs, hb, hz, hzs⟩ := tyStored
  have hz1 : ∀ v ∈ z.cells.toList, v.oneCell' = true := by
    have : inf.zero = some (.agg #[.string .empty, .string .empty, .int .i64 0]) := by
      have : Try.prog.info? 65 = some inf := hi
      cases this; rfl
    rw [hz] at this; cases this
    intro v hv
    simp [Value.cells] at hv
    rcases hv with rfl | rfl | rfl <;> rfl
  have hmx' : (m : Int) ≤ 9223372036854775807 := by simp only [maxLen] at hcm; omega
  obtain ⟨hp1, hp2⟩ := olds_cells hC ((i + 1) * 3) ((m - (i + 1)) * 3) (by omega)
  have h1n : ∀ v ∈ (C.toList.drop ((i + 1) * 3)).take ((m - (i + 1)) * 3), v.oneCell' = true := fun v hv => h1C v (by
    rw [show m * 3 = (i + 1) * 3 + (m - (i + 1)) * 3 by omega, List.take_add]
    exact List.mem_append_right _ hv)
  -- the append
  have ha := fun (a : Addr) ty sc (h : 0 < m - (i + 1) → a = ⟨b, (i + 1) * 3, none⟩) => run_append_place (P := Try.prog) (w := w.drew) (ty := ty) hu hi hC hfz (a := a) (m := m - (i + 1)) (c := sc) (news := (C.toList.drop ((i + 1) * 3)).take ((m - (i + 1)) * 3)) (sLen := i) (sCap := cap) (by rw [hs]; exact hp1) (fun j v hj => by
    have hj1 := (List.getElem?_eq_some_iff.1 hj).1
    rw [hp1] at hj1
    rw [h (by omega)]
    exact hp2 j v hj) h1n (by omega) (by rw [hs, hp1, hsz]; omega)
  rw [hp1, hs] at ha
  obtain ⟨C2, hC2⟩ : ∃ C2, C2 = (C.toList.take (i * 3) ++ (C.toList.drop ((i + 1) * 3)).take ((m - (i + 1)) * 3) ++ C.toList.drop (i * 3 + (m - (i + 1)) * 3)).toArray := ⟨_, rfl⟩
  obtain ⟨W2, hW2⟩ : ∃ W2, W2 = w.drew.setRow b C2 := ⟨_, rfl⟩
  simp only [← hC2, ← hW2, show i + (m - (i + 1)) = m - 1 by omega] at ha
  have hC2s : C2.size = C.size := by rw [hC2]; simp [hp1]; omega
  have hnew2 : W2.heap[b]? = some (.cells C2 e0 fz) := by rw [hW2]; exact setRow_heap w.drew _ C _ _ _ hC
  -- the clear
  have hc := fun ty cp => run_clear_place (P := Try.prog) (w := W2) (ty := ty) hu hi hz (g := b) (o := (m - 1) * 3) (m := m - (m - 1)) (cap := cp) hnew2 (sz := 3) (fun q hq => hfz q (by omega)) (by omega) hz1 (by rw [hzs, hC2s, hsz]; omega)
  rw [hzs] at hc
  generalize hzc : z.cells = zc at hc hzs hz1
  obtain ⟨C3, hC3⟩ : ∃ C3, C3 = (C2.toList.take ((m - 1) * 3) ++ (Builtin.zeroCells zc (m - (m - 1))).toList ++ C2.toList.drop ((m - 1) * 3 + (m - (m - 1)) * 3)).toArray := ⟨_, rfl⟩
  obtain ⟨W3, hW3⟩ : ∃ W3, W3 = W2.setRow b C3 := ⟨_, rfl⟩
  simp only [← hC3, ← hW3] at hc
  have hzl : (Builtin.zeroCells zc (m - (m - 1))).toList.length = 3 := by rw [Array.length_toList, size_zeroCells, hzs]; omega
  have fin : ∃ A' C' e' fz', (Ending.returned (.slice (some ⟨b, 0, none⟩) (m - 1) cap) : Ending) = .returned (.slice A' (m - 1) cap) ∧ Keeps (fun q => q = b) w W3 ∧ W3.heap[b]? = some (.cells C' e' fz') ∧ Unfz 3 C' fz' ∧
      C'.size = cap * 3 ∧ A' = some ⟨b, 0, none⟩ ∧ C'.toList.take ((m - 1) * 3) = C.toList.take (i * 3) ++ (C.toList.drop ((i + 1) * 3)).take ((m - 1 - i) * 3) := by
    have hC3s : C3.size = C.size := by rw [hC3]; simp [hzl]; omega
    refine ⟨_, C3, e0, fz, rfl, ⟨?_, ?_, ?_, ?_, fun q hq hq2 => ?_, by rw [hW3, hW2]; (first | exact Nat.le_refl _ | exact Nat.le_succ _ | exact Nat.le_succ_of_le (Nat.le_succ _) | exact Nat.le_succ_of_le (Nat.le_succ_of_le (Nat.le_succ _)))⟩, ?_, fun q hq => hfz q (by omega), by omega, rfl, ?_⟩
    · rw [hW3, hW2]; rfl
    · rw [hW3, hW2]; rfl
    · rw [hW3, hW2]; rfl
    · rw [hW3, hW2]; simp
    · rw [hW3, setRow_other W2 _ q _ hq2, hW2]; exact setRow_other w.drew _ q _ hq2
    · rw [hW3]; exact setRow_heap W2 _ C2 _ _ _ hnew2
    · rw [hC3]
      simp only [List.append_assoc]
      refine (List.take_left' (by simp; omega)).trans ?_
      rw [hC2, show m - 1 - i = m - (i + 1) by omega]
      exact List.take_left' (by simp [hp1]; omega)
  clear hzc hz hC2 hW2 hC3 hW3 hnew2 hp2 h1n h1C hz1
  have mixed := mix
  have hw1 : IntKind.i64.wrap ((i : Int) + 1) = (i : Int) + 1 := by rw [IntKind.wrap_i64]; omega
  have hb1 : (0 : Int) ≤ (i : Int) + 1 := by omega
  have htn : ((i : Int) + 1).toNat = i + 1 := by omega
  have hb3 : (i : Int) + 1 ≤ (m : Int) := by omega
  have hb3' : (i : Int) ≤ (i : Int) + 1 := by omega
  have hb3'' : i ≤ i + 1 := by omega
  have hb4 : ¬ (cap = i) := by omega
  have hb4' : ¬ (m = i) := by omega
  have hb5 : i ≤ m := by omega
  have hb6 : (i : Int) ≤ (m : Int) := by omega
  have hb7 : ¬ ((i : Int) = (i : Int) + 1) := by omega
  have hb8 : i + 1 ≤ m := by omega
  have hic : i ≤ cap := by omega
  have hjc : i + 1 ≤ cap := by omega
  have hm1 : m - 1 ≤ m := by omega
  have hm2 : m - 1 ≤ cap := by omega
  have hm3 : ¬ (cap = m - 1) := by omega
  by_cases hcap : cap = i + 1
  · subst hcap
    have ha1 := fun ty => ha ⟨b, 0, none⟩ ty 0 (fun h => by omega)
    clear ha
    go_enter Try.func191, Try.ntmps191
    go_wp2_with fail
    go_region_law_o (refine step_app_at rfl _ _ 26 26 rfl _ _ (by simp [Act.eval, Act.put]) (by simp [Act.eval, Act.put]; try omega) (ha1 _) ?_)
    go_wp2_with (at_builtin; refine wpList_clear_at _ rfl _ _ rfl _ rfl (hc _ _) ?_)
    go_ret
    exact fin
  · have ha1 := fun ty => ha ⟨b, (i + 1) * 3, none⟩ ty (cap - (i + 1)) (fun _ => rfl)
    clear ha
    go_enter Try.func191, Try.ntmps191
    go_wp2_with fail
    go_region_law_o (refine step_app_at rfl _ _ 26 26 rfl _ _ (by simp [Act.eval, Act.put]) (by simp [Act.eval, Act.put]; try omega) (ha1 _) ?_)
    go_wp2_with (at_builtin; refine wpList_clear_at _ rfl _ _ rfl _ rfl (hc _ _) ?_)
    go_ret
    exact fin
end Go.Proofs.Ytlijeincckbdaaa
namespace Go.Proofs.Ytlijeincckbdaaa
open Go.RowKit
set_option linter.unusedSimpArgs false
set_option linter.unusedVariables false
set_option maxRecDepth 100000
set_option maxHeartbeats 4000000
def noB (s : ByteArray) : Bool := decide (s = ⟨#[]⟩)
def opOk (o : DOp) : Bool := nameOk o.name 80 && (if o.kind = 1 then noB o.to && decide (o.text.size ≤ 20000) else if o.kind = 2 ∨ o.kind = 4 then noB o.to && noB o.text else if o.kind = 3 then nameOk o.to 80 && noB o.text else false)
theorem noB_t {s : ByteArray} (h : s = ⟨#[]⟩) : noB s = true := by simp only [noB, h, decide_true]
theorem noB_f {s : ByteArray} (h : ¬ s = ⟨#[]⟩) : noB s = false := by simp only [noB, h, decide_false]
theorem op1 {o : DOp} (h : nameOk o.name 80 = true) (h1 : o.kind = 1) : opOk o = (noB o.to && decide (o.text.size ≤ 20000)) := by unfold opOk; rw [h, if_pos h1, Bool.true_and]
theorem op24 {o : DOp} (h : nameOk o.name 80 = true) (h1 : o.kind = 2 ∨ o.kind = 4) : opOk o = (noB o.to && noB o.text) := by unfold opOk; rw [h, if_neg (by omega), if_pos h1, Bool.true_and]
theorem op3 {o : DOp} (h : nameOk o.name 80 = true) (h1 : o.kind = 3) : opOk o = (nameOk o.to 80 && noB o.text) := by unfold opOk; rw [h, if_neg (by omega), if_neg (by omega), if_pos h1, Bool.true_and]
theorem op0 {o : DOp} (h1 : ¬ o.kind = 1) (h2 : ¬ o.kind = 2) (h3 : ¬ o.kind = 3) (h4 : ¬ o.kind = 4) : opOk o = false := by unfold opOk; rw [if_neg h1, if_neg (by omega), if_neg h3, Bool.and_false]
theorem le_not (a : Nat) : decide (a ≤ 20000) = !decide (20000 < (a : Int)) := by
  by_cases q : a ≤ 20000
  · rw [decide_eq_true q, decide_eq_false (by omega)]; rfl
  · rw [decide_eq_false q, decide_eq_true (by omega)]; rfl
theorem le_int (a : Nat) : decide (a ≤ 20000) = decide ((a : Int) ≤ 20000) := by
  by_cases q : a ≤ 20000
  · rw [decide_eq_true q, decide_eq_true (by omega)]
  · rw [decide_eq_false q, decide_eq_false (by omega)]
theorem opImpl_c (o : DOp) (ho : o.ok) : Fun1 Try.prog 115 [.agg o.enc] (.one (.lit (.bool (opOk o)))) := by
  obtain ⟨hk, hn, ht, hx⟩ := ho
  refine fun1_of_vc tb_ok mix (fn := Try.f115) Try.func115 rfl (by kernel_rfl) (by kernel_rfl) (by simp [Try.f115]) (by rfl) ?_
  (conv => whnf)
  refine ⟨_, _, nameImpl_c o.name hn, (by repeat' (first | exact lends_nil | exact lend_dead | apply lends_cons | apply lend_agg | apply lend_one | exact all2_nil | apply all2_cons | exact la_lit rfl | exact la_int (by first | rfl | omega) | exact la_row rfl rfl | exact la_loc rfl rfl rfl (by first | rfl | simp [mkL_length]) (by first | rfl | simp) | exact la_nil rfl | apply la_fn rfl | exact lend_same rfl rfl | exact lend_bor rfl rfl)), ?_⟩; (conv => whnf)
  (split <;> rename_i h <;> (try simp only [decide_eq_true_eq, decide_eq_false_iff_not, Bool.not_eq_true', Bool.not_eq_false', Bool.not_eq_true, Bool.not_eq_false, List.length_map] at h) <;> conv => whnf)
  · exact ⟨close_bool (by simp [opOk, h]), trivial⟩
  (split <;> rename_i h1 <;> (try simp only [decide_eq_true_eq, decide_eq_false_iff_not, Bool.not_eq_true', Bool.not_eq_false', Bool.not_eq_true, Bool.not_eq_false, List.length_map] at h1) <;> conv => whnf)
  · (split <;> rename_i h2 <;> (try simp only [decide_eq_true_eq, decide_eq_false_iff_not, Bool.not_eq_true', Bool.not_eq_false', Bool.not_eq_true, Bool.not_eq_false, List.length_map] at h2) <;> conv => whnf)
    · refine ⟨_, _, isLong_c o.text, (by repeat' (first | exact lends_nil | exact lend_dead | apply lends_cons | apply lend_agg | apply lend_one | exact all2_nil | apply all2_cons | exact la_lit rfl | exact la_int (by first | rfl | omega) | exact la_row rfl rfl | exact la_loc rfl rfl rfl (by first | rfl | simp [mkL_length]) (by first | rfl | simp) | exact la_nil rfl | apply la_fn rfl | exact lend_same rfl rfl | exact lend_bor rfl rfl)), ?_⟩; (conv => whnf)
      exact ⟨close_bool (by rw [op1 h h1, noB_t h2, le_not]; rfl), trivial⟩
    · exact ⟨close_bool (by rw [op1 h h1, noB_f h2]; rfl), trivial⟩
  (split <;> rename_i h2 <;> (try simp only [decide_eq_true_eq, decide_eq_false_iff_not, Bool.not_eq_true', Bool.not_eq_false', Bool.not_eq_true, Bool.not_eq_false, List.length_map] at h2) <;> conv => whnf)
  · (split <;> rename_i g2 <;> (try simp only [decide_eq_true_eq, decide_eq_false_iff_not, Bool.not_eq_true', Bool.not_eq_false', Bool.not_eq_true, Bool.not_eq_false, List.length_map] at g2) <;> conv => whnf)
    · (split <;> rename_i h3 <;> (try simp only [decide_eq_true_eq, decide_eq_false_iff_not, Bool.not_eq_true', Bool.not_eq_false', Bool.not_eq_true, Bool.not_eq_false, List.length_map] at h3) <;> conv => whnf)
      · exact ⟨close_bool (by rw [op24 h (.inl h2), noB_t h3]; rfl), trivial⟩
      · exact ⟨close_bool (by rw [op24 h (.inl h2), noB_f h3]; rfl), trivial⟩
    · exact absurd h2 g2
  (split <;> rename_i h3 <;> (try simp only [decide_eq_true_eq, decide_eq_false_iff_not, Bool.not_eq_true', Bool.not_eq_false', Bool.not_eq_true, Bool.not_eq_false, List.length_map] at h3) <;> conv => whnf)
  · (split <;> rename_i h4 <;> (try simp only [decide_eq_true_eq, decide_eq_false_iff_not, Bool.not_eq_true', Bool.not_eq_false', Bool.not_eq_true, Bool.not_eq_false, List.length_map] at h4) <;> conv => whnf)
    · exact ⟨close_bool (by rw [op24 h (.inr h3), noB_t h4]; rfl), trivial⟩
    · exact ⟨close_bool (by rw [op24 h (.inr h3), noB_f h4]; rfl), trivial⟩
  (split <;> rename_i h4 <;> (try simp only [decide_eq_true_eq, decide_eq_false_iff_not, Bool.not_eq_true', Bool.not_eq_false', Bool.not_eq_true, Bool.not_eq_false, List.length_map] at h4) <;> conv => whnf)
  · refine ⟨_, _, nameImpl_c o.to ht, (by repeat' (first | exact lends_nil | exact lend_dead | apply lends_cons | apply lend_agg | apply lend_one | exact all2_nil | apply all2_cons | exact la_lit rfl | exact la_int (by first | rfl | omega) | exact la_row rfl rfl | exact la_loc rfl rfl rfl (by first | rfl | simp [mkL_length]) (by first | rfl | simp) | exact la_nil rfl | apply la_fn rfl | exact lend_same rfl rfl | exact lend_bor rfl rfl)), ?_⟩; (conv => whnf)
    (split <;> rename_i h5 <;> (try simp only [decide_eq_true_eq, decide_eq_false_iff_not, Bool.not_eq_true', Bool.not_eq_false', Bool.not_eq_true, Bool.not_eq_false, List.length_map] at h5) <;> conv => whnf)
    · exact ⟨close_bool (by rw [op3 h h4, h5]; rfl), trivial⟩
    · exact ⟨close_bool (by rw [op3 h h4, h5]; rfl), trivial⟩
  exact ⟨close_bool (by rw [op0 h1 h2 h4 h3]), trivial⟩
theorem opSpec_c (o : DOp) (ho : o.ok) : Fun1 Try.prog 117 [.agg o.enc] (.one (.lit (.bool (opOk o)))) := by
  obtain ⟨hk, hn, ht, hx⟩ := ho
  refine fun1_of_vc tb_ok mix (fn := Try.f117) Try.func117 rfl (by kernel_rfl) (by kernel_rfl) (by simp [Try.f117]) (by rfl) ?_
  (conv => whnf)
  refine ⟨_, _, nameSpec_c o.name hn, (by repeat' (first | exact lends_nil | exact lend_dead | apply lends_cons | apply lend_agg | apply lend_one | exact all2_nil | apply all2_cons | exact la_lit rfl | exact la_int (by first | rfl | omega) | exact la_row rfl rfl | exact la_loc rfl rfl rfl (by first | rfl | simp [mkL_length]) (by first | rfl | simp) | exact la_nil rfl | apply la_fn rfl | exact lend_same rfl rfl | exact lend_bor rfl rfl)), ?_⟩; (conv => whnf)
  (split <;> rename_i h <;> (try simp only [decide_eq_true_eq, decide_eq_false_iff_not, Bool.not_eq_true', Bool.not_eq_false', Bool.not_eq_true, Bool.not_eq_false, List.length_map] at h) <;> conv => whnf)
  · exact ⟨close_bool (by simp [opOk, h]), trivial⟩
  (split <;> rename_i h1 <;> (try simp only [decide_eq_true_eq, decide_eq_false_iff_not, Bool.not_eq_true', Bool.not_eq_false', Bool.not_eq_true, Bool.not_eq_false, List.length_map] at h1) <;> conv => whnf)
  · (split <;> rename_i h2 <;> (try simp only [decide_eq_true_eq, decide_eq_false_iff_not, Bool.not_eq_true', Bool.not_eq_false', Bool.not_eq_true, Bool.not_eq_false, List.length_map] at h2) <;> conv => whnf)
    · exact ⟨close_bool (by rw [op1 h h1, noB_t h2, le_int]; rfl), trivial⟩
    · exact ⟨close_bool (by rw [op1 h h1, noB_f h2]; rfl), trivial⟩
  (split <;> rename_i h4 <;> (try simp only [decide_eq_true_eq, decide_eq_false_iff_not, Bool.not_eq_true', Bool.not_eq_false', Bool.not_eq_true, Bool.not_eq_false, List.length_map] at h4) <;> conv => whnf)
  · refine ⟨_, _, nameSpec_c o.to ht, (by repeat' (first | exact lends_nil | exact lend_dead | apply lends_cons | apply lend_agg | apply lend_one | exact all2_nil | apply all2_cons | exact la_lit rfl | exact la_int (by first | rfl | omega) | exact la_row rfl rfl | exact la_loc rfl rfl rfl (by first | rfl | simp [mkL_length]) (by first | rfl | simp) | exact la_nil rfl | apply la_fn rfl | exact lend_same rfl rfl | exact lend_bor rfl rfl)), ?_⟩; (conv => whnf)
    (split <;> rename_i h5 <;> (try simp only [decide_eq_true_eq, decide_eq_false_iff_not, Bool.not_eq_true', Bool.not_eq_false', Bool.not_eq_true, Bool.not_eq_false, List.length_map] at h5) <;> conv => whnf)
    · exact ⟨close_bool (by rw [op3 h h4, h5]; rfl), trivial⟩
    · exact ⟨close_bool (by rw [op3 h h4, h5]; rfl), trivial⟩
  (repeat' (split <;> rename_i hb <;> (try simp only [decide_eq_true_eq, decide_eq_false_iff_not, Bool.not_eq_true', Bool.not_eq_false', Bool.not_eq_true, Bool.not_eq_false, List.length_map] at hb) <;> conv => whnf))
  all_goals (refine ⟨close_bool ?_, trivial⟩)
  all_goals (first | (exfalso; omega) | exact op0 h1 (by omega) h4 (by omega) | (rw [op24 h (by omega)]; simp [noB, *]; done) | (rw [op0 h1 (by omega) h4 (by omega)]; simp [*]; done) | (exfalso; simp_all; done))
end Go.Proofs.Ytlijeincckbdaaa
namespace Go.Proofs.Ytlijeincckbdaaa
open Go.RowKit
set_option linter.unusedSimpArgs false
set_option linter.unusedVariables false
set_option maxRecDepth 100000
set_option maxHeartbeats 4000000
/-- The first place whose name is not below. -/
def inK (l : List DStored) (name : ByteArray) : Nat := l.findIdx fun y => !bLt y.name name
def isAt (l : List DStored) (k : Nat) (name : ByteArray) : Bool := match l[k]? with
  | some y => decide (y.name = name)
  | none => false
def insL (l : List DStored) (f : DStored) : List DStored := l.take (inK l f.name) ++ [f] ++ l.drop (inK l f.name + (if isAt l (inK l f.name) f.name = true then 1 else 0))
theorem inK_le (l : List DStored) (name : ByteArray) : inK l name ≤ l.length := List.findIdx_le_length
theorem inK_eq {l : List DStored} {name : ByteArray} {i : Nat} (hi : i ≤ l.length) (h1 : ∀ t (h : t < l.length), t < i → bLt l[t].name name = true) (h2 : ∀ h : i < l.length, bLt l[i].name name = false) : inK l name = i := by
  unfold inK
  rcases Nat.lt_or_ge i l.length with h | h
  · exact (List.findIdx_eq h).2 ⟨by simp [h2 h], fun j hj => by simp [h1 j (by omega) hj]⟩
  · have : i = l.length := by omega
    subst this
    exact List.findIdx_eq_length.2 fun x hx => by
      obtain ⟨t, ht, rfl⟩ := List.mem_iff_getElem.1 hx
      simp [h1 t ht ht]
theorem l08In_c (l : List DStored) (hl : l.length ≤ 4294967295) (f : DStored) : Fun1 Try.prog 192 [.one (.row true 3 (l.map DStored.enc)), .agg f.enc] (.one (.row true 3 ((insL l f).map DStored.enc))) := by
  refine fun1_of_vc tb_ok mix (fn := Try.f192) Try.func192 rfl (by kernel_rfl) (by kernel_rfl) (by simp [Try.f192]) (by show AV.nb (4 + 1) _ = true; exact nb_map (n := 4) (fun y => DStored.enc_nbn 4 y) _) ?_
  (conv => whnf)
  refine ⟨LG (fun i : Nat => i ≤ l.length ∧ ∀ t (h : t < l.length), t < i → bLt l[t].name f.name = true) (fun i => l.length - i) (fun i => AS.of [(0, .one (.row true 3 (l.map DStored.enc))), (3, .one (.ptr 48 0)), (5, .one (.lit (.int .i64 (i : Nat))))] [(48, .var f.enc)]), lg_init 0 ⟨by omega, fun t _ h => by omega⟩ (weak_of (by repeat (first | refine all_cons (by first | rfl | exact eq_int rfl (by first | rfl | omega | (simp; done) | (simp; omega)) | exact eq_loc rfl (by first | rfl | omega | (simp; done) | (simp; omega)) | exact eq_bool rfl (by simp_all)) ?_ | exact all_nil)) (by repeat (first | refine all_cons (by first | rfl | exact eq_int rfl (by first | rfl | omega | (simp; done) | (simp; omega)) | exact eq_loc rfl (by first | rfl | omega | (simp; done) | (simp; omega)) | exact eq_bool rfl (by simp_all)) ?_ | exact all_nil)) rfl rfl), ?_⟩
  rintro σ k ⟨i, ⟨hi, hc⟩, rfl, rfl⟩
  refine ⟨_, Weak.refl _, ?_⟩
  (conv => whnf)
  (split <;> rename_i h <;> (try simp only [decide_eq_true_eq, decide_eq_false_iff_not, Bool.not_eq_true', Bool.not_eq_false', Bool.not_eq_true, Bool.not_eq_false, List.length_map] at h) <;> conv => whnf)
  · have hlt : i < l.length := by omega
    refine ⟨i, rfl, _, at_map hlt, ?_⟩; (conv => whnf)
    (split <;> rename_i h2 <;> (try simp only [decide_eq_true_eq, decide_eq_false_iff_not, Bool.not_eq_true', Bool.not_eq_false', Bool.not_eq_true, Bool.not_eq_false, List.length_map] at h2) <;> conv => whnf)
    · (refine ⟨((i + 1 : Nat) : Int), by rw [← wrap64_id] <;> omega, ?_⟩; conv => whnf)
      exact lg_back (i + 1) ⟨by omega, fun t h ht => by
        by_cases e : t = i
        · subst e; exact h2
        · exact hc t h (by omega)⟩ (by (try dsimp only); omega) (weak_of (by repeat (first | refine all_cons (by first | rfl | exact eq_int rfl (by first | rfl | omega | (simp; done) | (simp; omega)) | exact eq_loc rfl (by first | rfl | omega | (simp; done) | (simp; omega)) | exact eq_bool rfl (by simp_all)) ?_ | exact all_nil)) (by repeat (first | refine all_cons (by first | rfl | exact eq_int rfl (by first | rfl | omega | (simp; done) | (simp; omega)) | exact eq_loc rfl (by first | rfl | omega | (simp; done) | (simp; omega)) | exact eq_bool rfl (by simp_all)) ?_ | exact all_nil)) rfl rfl)
    · refine ⟨by decide, by simp, by simp; omega, (l.take i).map DStored.enc, by simp [List.map_take], ?_⟩; (conv => whnf)
      refine ⟨true, _, ⟨rfl, rfl, rfl⟩, ?_⟩; (conv => whnf)
      refine ⟨_, laid_map (f := DStored.enc) (fun _ => rfl) (l.take i), rfl, rfl, rfl, by simp [maxLen, chunk]; omega, by simp [chunk]; omega, ?_⟩; (conv => whnf)
      refine ⟨true, [f.enc], ⟨rfl, by simp [chunk], rfl, by simp [chunk]; rfl⟩, ?_⟩; (conv => whnf)
      refine ⟨[f.enc], laid_map (f := DStored.enc) (fun _ => rfl) [f], rfl, by simp [chunk], rfl, by simp [maxLen, chunk]; omega, by simp [chunk]; omega, ?_⟩; (conv => whnf)
      have hk : inK l f.name = i := inK_eq hi hc fun _ => by show sless _ _ = false; simpa using h2
      (split <;> rename_i h3 <;> (try simp only [decide_eq_true_eq, decide_eq_false_iff_not, Bool.not_eq_true', Bool.not_eq_false', Bool.not_eq_true, Bool.not_eq_false, List.length_map] at h3) <;> conv => whnf)
      · refine ⟨i, rfl, _, at_map hlt, ?_⟩; (conv => whnf)
        (split <;> rename_i h4 <;> (try simp only [decide_eq_true_eq, decide_eq_false_iff_not, Bool.not_eq_true', Bool.not_eq_false', Bool.not_eq_true, Bool.not_eq_false, List.length_map] at h4) <;> conv => whnf)
        · (refine ⟨((i + 1 : Nat) : Int), by rw [← wrap64_id] <;> omega, ?_⟩; conv => whnf)
          have he : insL l f = l.take i ++ [f] ++ l.drop (i + 1) := by
            unfold insL
            rw [hk, if_pos (by simp only [isAt, List.getElem?_eq_getElem hlt]; exact decide_eq_true h4)]
          refine ⟨by simp; omega, by simp; omega, by simp, (l.drop (i + 1)).map DStored.enc, by simp only [List.map_drop]; exact (List.take_of_length_le (by simp)).symm, ?_⟩; (conv => whnf)
          refine ⟨true, _, ⟨rfl, rfl, rfl⟩, ?_⟩; (conv => whnf)
          refine ⟨_, laid_map (f := DStored.enc) (fun _ => rfl) (l.drop (i + 1)), rfl, by simp [chunk], rfl, by simp [maxLen, chunk]; omega, by simp [chunk]; omega, ?_⟩; (conv => whnf)
          exact ⟨close_row rfl rfl (by simp [chunk]; omega) (by rw [he]; simp [chunk]), trivial⟩
        · have he : insL l f = l.take i ++ [f] ++ l.drop i := by
            unfold insL
            rw [hk, if_neg (by simp only [isAt, List.getElem?_eq_getElem hlt]; simpa using h4)]
            rfl
          refine ⟨by simp, by simp; omega, by simp, (l.drop i).map DStored.enc, by simp only [List.map_drop]; exact (List.take_of_length_le (by simp)).symm, ?_⟩; (conv => whnf)
          refine ⟨true, _, ⟨rfl, rfl, rfl⟩, ?_⟩; (conv => whnf)
          refine ⟨_, laid_map (f := DStored.enc) (fun _ => rfl) (l.drop i), rfl, by simp [chunk], rfl, by simp [maxLen, chunk]; omega, by simp [chunk]; omega, ?_⟩; (conv => whnf)
          exact ⟨close_row rfl rfl (by simp [chunk]; omega) (by rw [he]; simp [chunk]), trivial⟩
      · omega
  · have hk : inK l f.name = i := inK_eq hi hc fun h => by omega
    refine ⟨by decide, by simp, by simp; omega, (l.take i).map DStored.enc, by simp [List.map_take], ?_⟩; (conv => whnf)
    refine ⟨true, _, ⟨rfl, rfl, rfl⟩, ?_⟩; (conv => whnf)
    refine ⟨_, laid_map (f := DStored.enc) (fun _ => rfl) (l.take i), rfl, rfl, rfl, by simp [maxLen, chunk]; omega, by simp [chunk]; omega, ?_⟩; (conv => whnf)
    refine ⟨true, [f.enc], ⟨rfl, by simp [chunk], rfl, by simp [chunk]; rfl⟩, ?_⟩; (conv => whnf)
    refine ⟨[f.enc], laid_map (f := DStored.enc) (fun _ => rfl) [f], rfl, by simp [chunk], rfl, by simp [maxLen, chunk]; omega, by simp [chunk]; omega, ?_⟩; (conv => whnf)
    (split <;> rename_i h3 <;> (try simp only [decide_eq_true_eq, decide_eq_false_iff_not, Bool.not_eq_true', Bool.not_eq_false', Bool.not_eq_true, Bool.not_eq_false, List.length_map] at h3) <;> conv => whnf)
    · omega
    have he : insL l f = l.take i ++ [f] ++ l.drop i := by
      unfold insL
      rw [hk, if_neg (by simp only [isAt, List.getElem?_eq_none (show l.length ≤ i by omega)]; decide)]
      rfl
    refine ⟨by simp, by simp; omega, by simp, (l.drop i).map DStored.enc, by simp only [List.map_drop]; exact (List.take_of_length_le (by simp)).symm, ?_⟩; (conv => whnf)
    refine ⟨true, _, ⟨rfl, rfl, rfl⟩, ?_⟩; (conv => whnf)
    refine ⟨_, laid_map (f := DStored.enc) (fun _ => rfl) (l.drop i), rfl, by simp [chunk], rfl, by simp [maxLen, chunk]; omega, by simp [chunk]; omega, ?_⟩; (conv => whnf)
    exact ⟨close_row rfl rfl (by simp [chunk]; omega) (by rw [he]; simp [chunk]), trivial⟩
end Go.Proofs.Ytlijeincckbdaaa
