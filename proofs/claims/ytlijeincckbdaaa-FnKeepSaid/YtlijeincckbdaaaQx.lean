/- Contracts (reference): a policy that is drawn. -/
import Derived.Test.YtlijeincckbdaaaQp
import Derived.Test.YtlijeincckbdaaaQd
import Derived.Test.YtlijeincckbdaaaQw
import Derived.Test.YtlijeincckbdaaaQu
namespace Go.Proofs.Ytlijeincckbdaaa
open Go.RowKit
set_option linter.unusedSimpArgs false
set_option linter.unusedVariables false
set_option maxRecDepth 100000
set_option maxHeartbeats 4000000
def polL : List Int := [-1, 100, 101]
def pol0 (l : List UInt8) (S : Src) : Src × DPolicy :=
  ((nF l (nF l (nF l (nF l S 3).1 4).1 3).1 3).1, ⟨(nF l S 3).2, (nF l (nF l S 3).1 4).2, (nF l (nF l (nF l S 3).1 4).1 3).2, (nF l (nF l (nF l (nF l S 3).1 4).1 3).1 3).2⟩)
def polT (l : List UInt8) (S : Src) (p : DPolicy) : Src × DPolicy :=
  if (oneF l S 15).2 = true then
    if (nF l (oneF l S 15).1 4).2 = 0 then ((nF l (nF l (oneF l S 15).1 4).1 3).1, { p with last := polL.getD (nF l (nF l (oneF l S 15).1 4).1 3).2.toNat 0 })
    else if (nF l (oneF l S 15).1 4).2 = 1 then ((nF l (nF l (oneF l S 15).1 4).1 3).1, { p with days := polL.getD (nF l (nF l (oneF l S 15).1 4).1 3).2.toNat 0 })
    else if (nF l (oneF l S 15).1 4).2 = 2 then ((edgeF l (nF l (oneF l S 15).1 4).1).1, { p with weeks := (edgeF l (nF l (oneF l S 15).1 4).1).2 })
    else ((nF l (nF l (oneF l S 15).1 4).1 3).1, { p with months := polL.getD (nF l (nF l (oneF l S 15).1 4).1 3).2.toNat 0 })
  else ((oneF l S 15).1, p)
def polF (l : List UInt8) (S : Src) : Src × DPolicy := polT l (pol0 l S).1 (pol0 l S).2
theorem pol0_ok {l : List UInt8} {S : Src} (hS : S.ok l) : (pol0 l S).1.ok l ∧ (pol0 l S).1.size = S.size ∧ (pol0 l S).2.ok := by
  have h1 := nF_ok hS (inI_n (k := 3) (by omega))
  have h2 := nF_ok h1.1 (inI_n (k := 4) (by omega))
  have h3 := nF_ok h2.1 (inI_n (k := 3) (by omega))
  have h4 := nF_ok h3.1 (inI_n (k := 3) (by omega))
  refine ⟨h4.1, h4.2.1.trans (h3.2.1.trans (h2.2.1.trans h1.2.1)), ?_⟩
  unfold DPolicy.ok inI
  simp only [pol0]
  omega
theorem polL_in (k : Nat) : inI (polL.getD k 0) := by
  match k with
  | 0 => exact ⟨by decide, by decide⟩
  | 1 => exact ⟨by decide, by decide⟩
  | 2 => exact ⟨by decide, by decide⟩
  | k + 3 => exact ⟨by show (-9223372036854775808 : Int) ≤ 0; decide, by show (0 : Int) ≤ 9223372036854775807; decide⟩
theorem edgeI {l : List UInt8} {S : Src} (hS : S.ok l) : inI (edgeF l S).2 := by
  obtain ⟨q, hq, hql⟩ := nF_at hS (most := 14) (by omega)
  have hql' : q < edgeL.length := by show q < 14; omega
  have hr : (edgeF l S).2 = edgeL[q] := by show edgeL.getD (nF l S 14).2.toNat 0 = _; rw [hq, Int.toNat_natCast, getD_at hql']
  have : ∀ x ∈ edgeL, inI x := by unfold inI; decide
  rw [hr]
  exact this _ (List.getElem_mem hql')
theorem edgeF_ok {l : List UInt8} {S : Src} (hS : S.ok l) : (edgeF l S).1.ok l ∧ (edgeF l S).1.size = S.size := by
  have h := nF_ok hS (inI_n (k := 14) (by omega))
  exact ⟨h.1, h.2.1⟩
theorem polT_ok {l : List UInt8} {S : Src} (hS : S.ok l) {p : DPolicy} (hp : p.ok) : (polT l S p).1.ok l ∧ (polT l S p).1.size = S.size ∧ (polT l S p).2.ok := by
  have h1 : (oneF l S 15).1.ok l ∧ (oneF l S 15).1.size = S.size := ⟨(nF_ok hS (inI_n (k := 15) (by omega))).1, (nF_ok hS (inI_n (k := 15) (by omega))).2.1⟩
  have h2 := nF_ok h1.1 (inI_n (k := 4) (by omega))
  have h3 := nF_ok h2.1 (inI_n (k := 3) (by omega))
  have h4 := edgeF_ok h2.1
  have h5 := edgeI h2.1
  unfold DPolicy.ok at hp ⊢
  obtain ⟨a, b, c, d⟩ := hp
  unfold polT
  split
  · split
    · exact ⟨h3.1, h3.2.1.trans (h2.2.1.trans h1.2), polL_in _, b, c, d⟩
    · split
      · exact ⟨h3.1, h3.2.1.trans (h2.2.1.trans h1.2), a, polL_in _, c, d⟩
      · split
        · exact ⟨h4.1, h4.2.trans (h2.2.1.trans h1.2), a, b, h5, d⟩
        · exact ⟨h3.1, h3.2.1.trans (h2.2.1.trans h1.2), a, b, c, polL_in _⟩
  · exact ⟨h1.1, h1.2, a, b, c, d⟩
theorem polF_ok {l : List UInt8} {S : Src} (hS : S.ok l) : (polF l S).1.ok l ∧ (polF l S).1.size = S.size ∧ (polF l S).2.ok := by
  have h := pol0_ok hS
  have k := polT_ok h.1 h.2.2
  exact ⟨k.1, k.2.1.trans h.2.1, k.2.2⟩
theorem policy_c (B : Byt) (hB : B.l.length ≤ 4294967296) (S : Src) (hS : S.ok B.l) (res : Src × DPolicy) (hres : polF B.l S = res) :
    PtrF Try.prog 159 B.pars (S.cells B) (res.1.cells B) [] (.agg res.2.enc) := by
  obtain ⟨p1, e1⟩ : ∃ p, nF B.l S 3 = p := ⟨_, rfl⟩
  have c1 := n_c B hB S hS 3 (inI_n (by omega))
  have k1 := nF_ok hS (inI_n (k := 3) (by omega))
  rw [e1] at c1 k1
  obtain ⟨p2, e2⟩ : ∃ p, nF B.l p1.1 4 = p := ⟨_, rfl⟩
  have c2 := n_c B hB p1.1 k1.1 4 (inI_n (by omega))
  have k2 := nF_ok k1.1 (inI_n (k := 4) (by omega))
  rw [e2] at c2 k2
  obtain ⟨p3, e3⟩ : ∃ p, nF B.l p2.1 3 = p := ⟨_, rfl⟩
  have c3 := n_c B hB p2.1 k2.1 3 (inI_n (by omega))
  have k3 := nF_ok k2.1 (inI_n (k := 3) (by omega))
  rw [e3] at c3 k3
  obtain ⟨p4, e4⟩ : ∃ p, nF B.l p3.1 3 = p := ⟨_, rfl⟩
  have c4 := n_c B hB p3.1 k3.1 3 (inI_n (by omega))
  have k4 := nF_ok k3.1 (inI_n (k := 3) (by omega))
  rw [e4] at c4 k4
  obtain ⟨p5, e5⟩ : ∃ p, oneF B.l p4.1 15 = p := ⟨_, rfl⟩
  have c5 := one_c B hB p4.1 k4.1 15 (inI_n (by omega))
  have k5 : (oneF B.l p4.1 15).1.ok B.l := (nF_ok k4.1 (inI_n (k := 15) (by omega))).1
  rw [e5] at c5 k5
  obtain ⟨p6, e6⟩ : ∃ p, nF B.l p5.1 4 = p := ⟨_, rfl⟩
  have c6 := n_c B hB p5.1 k5 4 (inI_n (by omega))
  have k6 := nF_ok k5 (inI_n (k := 4) (by omega))
  rw [e6] at c6 k6
  obtain ⟨p7, e7⟩ : ∃ p, nF B.l p6.1 3 = p := ⟨_, rfl⟩
  have c7 := n_c B hB p6.1 k6.1 3 (inI_n (by omega))
  obtain ⟨q, hq, hql⟩ := nF_at k6.1 (most := 3) (by omega)
  rw [e7] at c7 hq
  have hql' : q < polL.length := by show q < 3; omega
  have hqd : polL.getD p7.2.toNat 0 = polL[q] := by rw [hq, Int.toNat_natCast, getD_at hql']
  obtain ⟨p8, e8⟩ : ∃ p, edgeF B.l p6.1 = p := ⟨_, rfl⟩
  have c8 := edge_c B hB p6.1 k6.1
  rw [e8] at c8
  have hE : polF B.l S = if p5.2 = true then (if p6.2 = 0 then (p7.1, ⟨polL[q], p2.2, p3.2, p4.2⟩) else if p6.2 = 1 then (p7.1, ⟨p1.2, polL[q], p3.2, p4.2⟩) else if p6.2 = 2 then (p8.1, ⟨p1.2, p2.2, p8.2, p4.2⟩) else (p7.1, ⟨p1.2, p2.2, p3.2, polL[q]⟩)) else (p5.1, ⟨p1.2, p2.2, p3.2, p4.2⟩) := by
    unfold polF pol0
    rw [e1, e2, e3, e4]
    unfold polT
    simp only [e5, e6, e7, e8, hqd]
  obtain ⟨y, hy⟩ : ∃ y, polL[q] = y := ⟨_, rfl⟩
  have hat : (polL.map eInt)[0 + q]? = some (eInt y) := by rw [← hy]; exact at_map0 hql'
  rw [hE, hy] at hres
  clear hqd hE hy
  refine ptrf_of_vc (E := tb) tb_ok mix (fn := Try.f159) Try.func159 rfl (by kernel_rfl) (by kernel_rfl) (by simp [Try.f159]) (by rfl) rfl rfl (by show 1 ≤ 7; decide) rfl fun b => ?_
  (conv => whnf)
  refine ⟨_, _, ptr_ok 0 (c1) rfl rfl (by repeat' (first | exact lends_nil | exact lend_dead | apply lends_cons | apply lend_agg | apply lend_one | exact all2_nil | apply all2_cons | exact la_lit rfl | exact la_int (by first | rfl | omega) | exact la_row rfl rfl | exact la_loc rfl rfl rfl (by first | rfl | simp [mkL_length]) (by first | rfl | simp) | exact la_nil rfl | apply la_fn rfl | exact lend_same rfl rfl | exact lend_bor rfl rfl)) (fun p hp => ⟨1, by rw [List.mem_singleton.1 hp]; rfl⟩) (fun x hx => by cases hx), ?_⟩; (conv => whnf)
  refine ⟨_, _, ptr_ok 0 (c2) rfl rfl (by repeat' (first | exact lends_nil | exact lend_dead | apply lends_cons | apply lend_agg | apply lend_one | exact all2_nil | apply all2_cons | exact la_lit rfl | exact la_int (by first | rfl | omega) | exact la_row rfl rfl | exact la_loc rfl rfl rfl (by first | rfl | simp [mkL_length]) (by first | rfl | simp) | exact la_nil rfl | apply la_fn rfl | exact lend_same rfl rfl | exact lend_bor rfl rfl)) (fun p hp => ⟨1, by rw [List.mem_singleton.1 hp]; rfl⟩) (fun x hx => by cases hx), ?_⟩; (conv => whnf)
  refine ⟨_, _, ptr_ok 0 (c3) rfl rfl (by repeat' (first | exact lends_nil | exact lend_dead | apply lends_cons | apply lend_agg | apply lend_one | exact all2_nil | apply all2_cons | exact la_lit rfl | exact la_int (by first | rfl | omega) | exact la_row rfl rfl | exact la_loc rfl rfl rfl (by first | rfl | simp [mkL_length]) (by first | rfl | simp) | exact la_nil rfl | apply la_fn rfl | exact lend_same rfl rfl | exact lend_bor rfl rfl)) (fun p hp => ⟨1, by rw [List.mem_singleton.1 hp]; rfl⟩) (fun x hx => by cases hx), ?_⟩; (conv => whnf)
  refine ⟨_, _, ptr_ok 0 (c4) rfl rfl (by repeat' (first | exact lends_nil | exact lend_dead | apply lends_cons | apply lend_agg | apply lend_one | exact all2_nil | apply all2_cons | exact la_lit rfl | exact la_int (by first | rfl | omega) | exact la_row rfl rfl | exact la_loc rfl rfl rfl (by first | rfl | simp [mkL_length]) (by first | rfl | simp) | exact la_nil rfl | apply la_fn rfl | exact lend_same rfl rfl | exact lend_bor rfl rfl)) (fun p hp => ⟨1, by rw [List.mem_singleton.1 hp]; rfl⟩) (fun x hx => by cases hx), ?_⟩; (conv => whnf)
  refine ⟨_, _, ptr_ok 0 (c5) rfl rfl (by repeat' (first | exact lends_nil | exact lend_dead | apply lends_cons | apply lend_agg | apply lend_one | exact all2_nil | apply all2_cons | exact la_lit rfl | exact la_int (by first | rfl | omega) | exact la_row rfl rfl | exact la_loc rfl rfl rfl (by first | rfl | simp [mkL_length]) (by first | rfl | simp) | exact la_nil rfl | apply la_fn rfl | exact lend_same rfl rfl | exact lend_bor rfl rfl)) (fun p hp => ⟨1, by rw [List.mem_singleton.1 hp]; rfl⟩) (fun x hx => by cases hx), ?_⟩; (conv => whnf)
  (split <;> rename_i hb <;> (try simp only [decide_eq_true_eq, decide_eq_false_iff_not, Bool.not_eq_true', Bool.not_eq_false', Bool.not_eq_true, Bool.not_eq_false, List.length_map] at hb) <;> conv => whnf)
  · rw [if_pos hb] at hres
    refine ⟨_, _, ptr_ok 0 (c6) rfl rfl (by repeat' (first | exact lends_nil | exact lend_dead | apply lends_cons | apply lend_agg | apply lend_one | exact all2_nil | apply all2_cons | exact la_lit rfl | exact la_int (by first | rfl | omega) | exact la_row rfl rfl | exact la_loc rfl rfl rfl (by first | rfl | simp [mkL_length]) (by first | rfl | simp) | exact la_nil rfl | apply la_fn rfl | exact lend_same rfl rfl | exact lend_bor rfl rfl)) (fun p hp => ⟨1, by rw [List.mem_singleton.1 hp]; rfl⟩) (fun x hx => by cases hx), ?_⟩; (conv => whnf)
    (split <;> rename_i h0 <;> (try simp only [decide_eq_true_eq, decide_eq_false_iff_not, Bool.not_eq_true', Bool.not_eq_false', Bool.not_eq_true, Bool.not_eq_false, List.length_map] at h0) <;> conv => whnf)
    · rw [if_pos h0] at hres
      subst hres
      refine ⟨_, _, ptr_ok 0 (c7) rfl rfl (by repeat' (first | exact lends_nil | exact lend_dead | apply lends_cons | apply lend_agg | apply lend_one | exact all2_nil | apply all2_cons | exact la_lit rfl | exact la_int (by first | rfl | omega) | exact la_row rfl rfl | exact la_loc rfl rfl rfl (by first | rfl | simp [mkL_length]) (by first | rfl | simp) | exact la_nil rfl | apply la_fn rfl | exact lend_same rfl rfl | exact lend_bor rfl rfl)) (fun p hp => ⟨1, by rw [List.mem_singleton.1 hp]; rfl⟩) (fun x hx => by cases hx), ?_⟩; (conv => whnf)
      refine ⟨q, hq, hql', ?_⟩; (conv => whnf)
      refine ⟨_, hat, ?_⟩; (conv => whnf)
      exact ⟨⟨close_int rfl, close_int rfl, close_int rfl, close_int rfl, trivial⟩, rfl, rfl⟩
    · rw [if_neg h0] at hres
      (split <;> rename_i h1 <;> (try simp only [decide_eq_true_eq, decide_eq_false_iff_not, Bool.not_eq_true', Bool.not_eq_false', Bool.not_eq_true, Bool.not_eq_false, List.length_map] at h1) <;> conv => whnf)
      · rw [if_pos h1] at hres
        subst hres
        refine ⟨_, _, ptr_ok 0 (c7) rfl rfl (by repeat' (first | exact lends_nil | exact lend_dead | apply lends_cons | apply lend_agg | apply lend_one | exact all2_nil | apply all2_cons | exact la_lit rfl | exact la_int (by first | rfl | omega) | exact la_row rfl rfl | exact la_loc rfl rfl rfl (by first | rfl | simp [mkL_length]) (by first | rfl | simp) | exact la_nil rfl | apply la_fn rfl | exact lend_same rfl rfl | exact lend_bor rfl rfl)) (fun p hp => ⟨1, by rw [List.mem_singleton.1 hp]; rfl⟩) (fun x hx => by cases hx), ?_⟩; (conv => whnf)
        refine ⟨q, hq, hql', ?_⟩; (conv => whnf)
        refine ⟨_, hat, ?_⟩; (conv => whnf)
        exact ⟨⟨close_int rfl, close_int rfl, close_int rfl, close_int rfl, trivial⟩, rfl, rfl⟩
      · rw [if_neg h1] at hres
        (split <;> rename_i h2 <;> (try simp only [decide_eq_true_eq, decide_eq_false_iff_not, Bool.not_eq_true', Bool.not_eq_false', Bool.not_eq_true, Bool.not_eq_false, List.length_map] at h2) <;> conv => whnf)
        · rw [if_pos h2] at hres
          subst hres
          refine ⟨_, _, ptr_ok 0 (c8) rfl rfl (by repeat' (first | exact lends_nil | exact lend_dead | apply lends_cons | apply lend_agg | apply lend_one | exact all2_nil | apply all2_cons | exact la_lit rfl | exact la_int (by first | rfl | omega) | exact la_row rfl rfl | exact la_loc rfl rfl rfl (by first | rfl | simp [mkL_length]) (by first | rfl | simp) | exact la_nil rfl | apply la_fn rfl | exact lend_same rfl rfl | exact lend_bor rfl rfl)) (fun p hp => ⟨1, by rw [List.mem_singleton.1 hp]; rfl⟩) (fun x hx => by cases hx), ?_⟩; (conv => whnf)
          exact ⟨⟨close_int rfl, close_int rfl, close_int rfl, close_int rfl, trivial⟩, rfl, rfl⟩
        · rw [if_neg h2] at hres
          subst hres
          refine ⟨_, _, ptr_ok 0 (c7) rfl rfl (by repeat' (first | exact lends_nil | exact lend_dead | apply lends_cons | apply lend_agg | apply lend_one | exact all2_nil | apply all2_cons | exact la_lit rfl | exact la_int (by first | rfl | omega) | exact la_row rfl rfl | exact la_loc rfl rfl rfl (by first | rfl | simp [mkL_length]) (by first | rfl | simp) | exact la_nil rfl | apply la_fn rfl | exact lend_same rfl rfl | exact lend_bor rfl rfl)) (fun p hp => ⟨1, by rw [List.mem_singleton.1 hp]; rfl⟩) (fun x hx => by cases hx), ?_⟩; (conv => whnf)
          refine ⟨q, hq, hql', ?_⟩; (conv => whnf)
          refine ⟨_, hat, ?_⟩; (conv => whnf)
          exact ⟨⟨close_int rfl, close_int rfl, close_int rfl, close_int rfl, trivial⟩, rfl, rfl⟩
  · rw [if_neg (by rw [hb]; decide)] at hres
    subst hres
    exact ⟨⟨close_int rfl, close_int rfl, close_int rfl, close_int rfl, trivial⟩, rfl, rfl⟩
end Go.Proofs.Ytlijeincckbdaaa
namespace Go.Proofs.Ytlijeincckbdaaa
open Go.RowKit
set_option linter.unusedSimpArgs false
set_option linter.unusedVariables false
set_option maxRecDepth 100000
set_option maxHeartbeats 8000000
def txt1 (n : Nat) : ByteArray := ⟨[UInt8.ofNat n].toArray⟩
def snap1 (D : ByteArray) (i : Nat) (d : Int) : DSnap := ⟨⟨#[110]⟩ ++ txt1 (97 + i), d, D⟩
def snL (D : ByteArray) (l : List UInt8) : Nat → Nat → Src → List DSnap → Src × List DSnap
  | 0, _, S, acc => (S, acc)
  | k + 1, i, S, acc => if (oneF l S 3).2 = true then snL D l k (i + 1) (oneF l S 3).1 acc else snL D l k (i + 1) (nF l (oneF l S 3).1 80).1 (acc ++ [snap1 D i (nF l (oneF l S 3).1 80).2])
def okL (n : Nat) (l : List DSnap) : Prop := l.length ≤ n ∧ ∀ s ∈ l, s.ok
theorem okL_snoc {n : Nat} {l : List DSnap} (h : okL n l) {s : DSnap} (hs : s.ok) : okL (n + 1) (l ++ [s]) := by
  refine ⟨by have := h.1; simp; omega, fun x hx => ?_⟩
  rw [List.mem_append, List.mem_singleton] at hx
  rcases hx with h1 | rfl
  · exact h.2 x h1
  · exact hs
theorem cat_size (a b : ByteArray) : (a ++ b).size = a.size + b.size := by simp
theorem snap1_ok {D : ByteArray} (hD : D.size = 32) (i : Nat) {d : Int} (h : 0 ≤ d ∧ d ≤ 1000) : (snap1 D i d).ok := by
  refine ⟨?_, by unfold inI snap1; simp only; omega, by show D.size ≤ _; omega⟩
  show (⟨#[110]⟩ ++ txt1 (97 + i) : ByteArray).size ≤ _
  rw [cat_size]
  show 1 + 1 ≤ 4294967296
  omega
theorem snL_ok {D : ByteArray} (hD : D.size = 32) {l : List UInt8} : ∀ (k i : Nat) {S : Src} {acc : List DSnap} {n : Nat}, S.ok l → okL n acc → (snL D l k i S acc).1.ok l ∧ (snL D l k i S acc).1.size = S.size ∧ okL (n + k) (snL D l k i S acc).2
  | 0, i, S, acc, n, hS, ha => ⟨hS, rfl, ha⟩
  | k + 1, i, S, acc, n, hS, ha => by
    have h1 := nF_ok hS (inI_n (k := 3) (by omega))
    have h2 := nF_ok h1.1 (inI_n (k := 80) (by omega))
    unfold snL
    split
    · obtain ⟨a, b, c⟩ := snL_ok hD k (i + 1) (S := (oneF l S 3).1) (n := n) h1.1 ha
      exact ⟨a, b.trans h1.2.1, by have := c.1; omega, c.2⟩
    · obtain ⟨a, b, c⟩ := snL_ok hD k (i + 1) (S := (nF l (oneF l S 3).1 80).1) (n := n + 1) h2.1 (okL_snoc ha (snap1_ok hD i (d := (nF l (oneF l S 3).1 80).2) (by
        have : (nF l (oneF l S 3).1 80).2 < 80 ∨ (nF l (oneF l S 3).1 80).2 = 0 := h2.2.2.2
        have h3 : 0 ≤ (nF l (oneF l S 3).1 80).2 := h2.2.2.1
        omega)))
      exact ⟨a, b.trans (h2.2.1.trans h1.2.1), by have := c.1; omega, c.2⟩
def snapZ (D : ByteArray) (i : Nat) : DSnap := ⟨⟨#[122]⟩ ++ ⟨[UInt8.ofNat (97 + i / 10), UInt8.ofNat (48 + i % 10)].toArray⟩, i, D⟩
theorem snapZ_ok {D : ByteArray} (hD : D.size = 32) {i : Nat} (hi : i ≤ 1000) : (snapZ D i).ok := by
  refine ⟨?_, by unfold inI snapZ; simp only; omega, by show D.size ≤ _; omega⟩
  show (⟨#[122]⟩ ++ (⟨[UInt8.ofNat (97 + i / 10), UInt8.ofNat (48 + i % 10)].toArray⟩ : ByteArray)).size ≤ _
  rw [cat_size]
  show 1 + 2 ≤ 4294967296
  omega
/-- Snaps are made up to 99 and some. -/
def fillL (D : ByteArray) (l : List UInt8) : Nat → Nat → Src → List DSnap → Src × List DSnap
  | 0, _, S, acc => (S, acc)
  | k + 1, i, S, acc => if (acc.length : Int) < 99 + (nF l S 3).2 then fillL D l k (i + 1) (nF l S 3).1 (acc ++ [snapZ D i]) else ((nF l S 3).1, acc)
theorem fillL_ok {D : ByteArray} (hD : D.size = 32) {l : List UInt8} : ∀ (k i : Nat) {S : Src} {acc : List DSnap}, S.ok l → okL 101 acc → i ≤ acc.length → (fillL D l k i S acc).1.ok l ∧ (fillL D l k i S acc).1.size = S.size ∧ okL 101 (fillL D l k i S acc).2
  | 0, i, S, acc, hS, ha, _ => ⟨hS, rfl, ha⟩
  | k + 1, i, S, acc, hS, ha, hi => by
    have h1 := nF_ok hS (inI_n (k := 3) (by omega))
    unfold fillL
    split
    · rename_i hlt
      have hacc : okL 100 acc := ⟨by omega, ha.2⟩
      obtain ⟨a, b, c⟩ := fillL_ok hD k (i + 1) (S := (nF l S 3).1) h1.1 (okL_snoc hacc (snapZ_ok hD (i := i) (by have := hacc.1; omega))) (by simp; omega)
      exact ⟨a, b.trans h1.2.1, c⟩
    · exact ⟨h1.1, h1.2.1, ha⟩
def snapsT (D : ByteArray) (l : List UInt8) (S : Src) (acc : List DSnap) : Src × List DSnap :=
  if (oneF l S 15).2 = true ∧ 0 < acc.length then
    if (nF l (oneF l S 15).1 3).2 = 0 then ((nF l (oneF l S 15).1 3).1, acc ++ [acc.getD 0 ⟨.empty, 0, .empty⟩])
    else if (nF l (oneF l S 15).1 3).2 = 1 then ((nF l (oneF l S 15).1 3).1, acc.set 0 { acc.getD 0 ⟨.empty, 0, .empty⟩ with day := -1 })
    else fillL D l (102 - acc.length) 0 (nF l (oneF l S 15).1 3).1 acc
  else ((oneF l S 15).1, acc)
def snapsF (D : ByteArray) (l : List UInt8) (S : Src) : Src × List DSnap := snapsT D l (snL D l (4 + S.size).toNat 0 S []).1 (snL D l (4 + S.size).toNat 0 S []).2
theorem snapsT_ok {D : ByteArray} (hD : D.size = 32) {l : List UInt8} {S : Src} (hS : S.ok l) {acc : List DSnap} (ha : okL 16 acc) : (snapsT D l S acc).1.ok l ∧ okL 101 (snapsT D l S acc).2 := by
  have h1 : (oneF l S 15).1.ok l := (nF_ok hS (inI_n (k := 15) (by omega))).1
  have h2 := nF_ok h1 (inI_n (k := 3) (by omega))
  have ha1 : okL 101 acc := ⟨by have := ha.1; omega, ha.2⟩
  unfold snapsT
  split
  · rename_i h
    have e : acc.getD 0 ⟨.empty, 0, .empty⟩ = acc[0]'h.2 := getD_at h.2 _
    have h0 : acc[0]'h.2 ∈ acc := List.getElem_mem _
    split
    · refine ⟨h2.1, ?_⟩
      have := okL_snoc ha (s := acc.getD 0 ⟨.empty, 0, .empty⟩) (by rw [e]; exact ha.2 _ h0)
      exact ⟨Nat.le_trans this.1 (by omega), this.2⟩
    · split
      · refine ⟨h2.1, by show (acc.set 0 _).length ≤ 101; rw [List.length_set]; have := ha.1; omega, fun x hx => ?_⟩
        rcases List.mem_or_eq_of_mem_set hx with hx | rfl
        · exact ha.2 x hx
        · have := ha.2 _ h0
          rw [e]
          exact ⟨this.1, by unfold inI; simp, this.2.2⟩
      · have := fillL_ok hD (102 - acc.length) 0 h2.1 ha1 (Nat.zero_le _)
        exact ⟨this.1, this.2.2⟩
  · exact ⟨h1, ha1⟩
theorem snapsF_ok {D : ByteArray} (hD : D.size = 32) {l : List UInt8} {S : Src} (hS : S.ok l) : (snapsF D l S).1.ok l ∧ okL 101 (snapsF D l S).2 := by
  have h := snL_ok hD (l := l) (4 + S.size).toNat 0 (S := S) (acc := []) (n := 0) hS ⟨Nat.le_refl _, fun _ h => by cases h⟩
  have h2 := hS.2.2
  exact snapsT_ok hD h.1 ⟨by have := h.2.2.1; omega, h.2.2.2⟩
theorem digR_c : Fun1 Try.prog 212 [.one (.lit (.string ⟨#[114]⟩))] (.one (.lit (.string (digF ⟨#[114]⟩)))) := by
  have := digestSpec_c ⟨#[114]⟩ (by decide)
  rwa [if_pos (by decide)] at this
theorem snaps_c (B : Byt) (hB : B.l.length ≤ 4294967296) (S : Src) (hS : S.ok B.l) (D : ByteArray) (hD : digF ⟨#[114]⟩ = D) (res : Src × List DSnap) (hres : snapsF D B.l S = res) :
    PtrF Try.prog 160 B.pars (S.cells B) (res.1.cells B) [] (.one (.row true 3 (res.2.map DSnap.enc))) := by
  have cD := digR_c
  have hDs : D.size = 32 := by rw [← hD]; exact digF_size _
  rw [hD] at cD
  refine ptrf_of_vc (E := tbO160) (tbF_ok _) mix (fn := Try.f160) Try.func160 rfl (by kernel_rfl) (by kernel_rfl) (by simp [Try.f160]) (by show AV.nb (4 + 1) _ = true; exact nb_map (n := 4) (fun y => DSnap.enc_nbn 4 y) _) rfl rfl (by show 1 ≤ 7; decide) rfl fun b => ?_
  (conv => whnf)
  obtain ⟨N, hN⟩ : ∃ N : Nat, 4 + S.size = N := ⟨(4 + S.size).toNat, by have := hS.2.1; omega⟩
  have hN16 : N ≤ 16 := by have := hS.2.2; omega
  have hsz0 := hS.2
  refine ⟨LG (fun p : Nat × Src × List DSnap => p.1 ≤ N ∧ p.2.1.ok B.l ∧ p.2.1.size = S.size ∧ okL p.1 p.2.2 ∧ snL D B.l (N - p.1) p.1 p.2.1 p.2.2 = snL D B.l N 0 S []) (fun p => N - p.1)
      (fun p => AS.of [(0, .one (.ptr 0 0)), (2, .one (.lit (.slice none 0 0))), (3, .one (.loc 96 0 p.2.2.length)), (4, .one (.lit (.int .i64 (p.1 : Nat))))]
        [(0, .var ((p.2.1.cells B).map .lit)), (1, .par (.slice B.A B.l.length B.cap) (.row true 1 (B.l.map byteE))), (8, .pin 0 (.var b)), (96, .row true 3 (p.2.2.map DSnap.enc))]),
    lg_init (0, S, []) ⟨Nat.zero_le _, hS, rfl, ⟨Nat.le_refl _, fun _ h => by cases h⟩, rfl⟩ (weak_of (by repeat (first | refine all_cons (by first | rfl | exact eq_int rfl (by first | rfl | omega | (simp; done) | (simp; omega)) | exact eq_loc rfl (by first | rfl | omega | (simp; done) | (simp; omega)) | exact eq_bool rfl (by simp_all)) ?_ | exact all_nil)) (by repeat (first | refine all_cons (by first | rfl | exact eq_int rfl (by first | rfl | omega | (simp; done) | (simp; omega)) | exact eq_loc rfl (by first | rfl | omega | (simp; done) | (simp; omega)) | exact eq_bool rfl (by simp_all)) ?_ | exact all_nil)) rfl rfl), ?_⟩
  rintro σ m0 ⟨⟨i, S1, acc⟩, ⟨hi, hS1, hsz, ha, hF⟩, rfl, rfl⟩
  simp only at hi hS1 hsz ha hF ⊢
  refine ⟨_, Weak.refl _, ?_⟩
  (conv => whnf)
  refine ⟨4 + S1.size, by rw [← wrap64_id] <;> omega, ?_⟩; (conv => whnf)
  (split <;> rename_i h <;> (try simp only [decide_eq_true_eq, decide_eq_false_iff_not, Bool.not_eq_true', Bool.not_eq_false', Bool.not_eq_true, Bool.not_eq_false, List.length_map] at h) <;> conv => whnf)
  · have hlt : i < N := by omega
    obtain ⟨k, hk⟩ : ∃ k, N - i = k + 1 := ⟨N - i - 1, by omega⟩
    have hk' : N - (i + 1) = k := by omega
    rw [hk] at hF
    obtain ⟨q1, e1⟩ : ∃ q, oneF B.l S1 3 = q := ⟨_, rfl⟩
    have c1 := one_c B hB S1 hS1 3 (inI_n (by omega))
    have k1 : (oneF B.l S1 3).1.ok B.l ∧ (oneF B.l S1 3).1.size = S1.size := ⟨(nF_ok hS1 (inI_n (k := 3) (by omega))).1, (nF_ok hS1 (inI_n (k := 3) (by omega))).2.1⟩
    rw [e1] at c1 k1
    obtain ⟨q2, e2⟩ : ∃ q, nF B.l q1.1 80 = q := ⟨_, rfl⟩
    have c2 := n_c B hB q1.1 k1.1 80 (inI_n (by omega))
    have k2 := nF_ok k1.1 (inI_n (k := 80) (by omega))
    rw [e2] at c2 k2
    refine ⟨_, _, ptr_ok 0 (c1) rfl rfl (by repeat' (first | exact lends_nil | exact lend_dead | apply lends_cons | apply lend_agg | apply lend_one | exact all2_nil | apply all2_cons | exact la_lit rfl | exact la_int (by first | rfl | omega) | exact la_row rfl rfl | exact la_loc rfl rfl rfl (by first | rfl | simp [mkL_length]) (by first | rfl | simp) | exact la_nil rfl | apply la_fn rfl | exact lend_same rfl rfl | exact lend_bor rfl rfl)) (fun p hp => ⟨1, by rw [List.mem_singleton.1 hp]; rfl⟩) (fun x hx => by cases hx), ?_⟩; (conv => whnf)
    (split <;> rename_i h1 <;> (try simp only [decide_eq_true_eq, decide_eq_false_iff_not, Bool.not_eq_true', Bool.not_eq_false', Bool.not_eq_true, Bool.not_eq_false, List.length_map] at h1) <;> conv => whnf)
    · have hF' : snL D B.l k (i + 1) q2.1 (acc ++ [snap1 D i q2.2]) = snL D B.l N 0 S [] := by
        rw [← hF, snL, e1, if_neg (by rw [h1]; decide), e2]
      refine ⟨((97 + i : Nat) : Int), by rw [← wrap64_id] <;> omega, ?_⟩; (conv => whnf)
      refine ⟨?_, ?_, trivial⟩
      · (conv => whnf)
        refine ⟨((UInt8.ofNat (97 + i)).toNat : Int), (u8_nat _).symm, ?_⟩; (conv => whnf)
        refine ⟨?_, ?_, trivial⟩
        · (conv => whnf)
          refine ⟨?_, ?_, trivial⟩
          · (conv => whnf)
            refine ⟨true, _, [UInt8.ofNat (97 + i)], ⟨rfl, by simp [chunk], rfl, rfl⟩, rfl, ?_⟩; (conv => whnf)
            refine ⟨by show 1 + 1 ≤ 9223372036854775807; decide, ?_⟩; (conv => whnf)
            refine ⟨_, _, ptr_ok 0 (c2) rfl rfl (by repeat' (first | exact lends_nil | exact lend_dead | apply lends_cons | apply lend_agg | apply lend_one | exact all2_nil | apply all2_cons | exact la_lit rfl | exact la_int (by first | rfl | omega) | exact la_row rfl rfl | exact la_loc rfl rfl rfl (by first | rfl | simp [mkL_length]) (by first | rfl | simp) | exact la_nil rfl | apply la_fn rfl | exact lend_same rfl rfl | exact lend_bor rfl rfl)) (fun p hp => ⟨1, by rw [List.mem_singleton.1 hp]; rfl⟩) (fun x hx => by cases hx), ?_⟩; (conv => whnf)
            refine ⟨_, _, cD, (by repeat' (first | exact lends_nil | exact lend_dead | apply lends_cons | apply lend_agg | apply lend_one | exact all2_nil | apply all2_cons | exact la_lit rfl | exact la_int (by first | rfl | omega) | exact la_row rfl rfl | exact la_loc rfl rfl rfl (by first | rfl | simp [mkL_length]) (by first | rfl | simp) | exact la_nil rfl | apply la_fn rfl | exact lend_same rfl rfl | exact lend_bor rfl rfl)), ?_⟩; (conv => whnf)
            refine ⟨true, [(snap1 D i q2.2).enc], ⟨rfl, by simp [chunk], rfl, rfl⟩, ?_⟩; (conv => whnf)
            refine ⟨[(snap1 D i q2.2).enc], laid_map (f := DSnap.enc) (fun _ => rfl) [snap1 D i q2.2], rfl, by simp [chunk], rfl, by have := ha.1; simp [maxLen, chunk]; omega, by have := ha.1; simp [chunk]; omega, ?_⟩; (conv => whnf)
            (refine ⟨((i + 1 : Nat) : Int), by rw [← wrap64_id] <;> omega, ?_⟩; conv => whnf)
            exact lg_back ((i + 1, q2.1, acc ++ [snap1 D i q2.2]) : Nat × Src × List DSnap) ⟨by omega, k2.1, k2.2.1.trans (k1.2.trans hsz), okL_snoc ha (snap1_ok hDs i (by omega)), by rw [hk']; exact hF'⟩ (by (try dsimp only); omega) (weak_of (all_cons rfl (all_cons rfl (all_cons (eq_loc rfl (by simp [chunk])) (all_cons rfl all_nil)))) (all_cons rfl (all_cons rfl (all_cons rfl (all_cons (eq_row rfl (by simp [chunk])) all_nil)))) rfl rfl)
          · (conv => whnf)
            refine ⟨_, _, ptr_ok 0 (c2) rfl rfl (by repeat' (first | exact lends_nil | exact lend_dead | apply lends_cons | apply lend_agg | apply lend_one | exact all2_nil | apply all2_cons | exact la_lit rfl | exact la_int (by first | rfl | omega) | exact la_row rfl rfl | exact la_loc rfl rfl rfl (by first | rfl | simp [mkL_length]) (by first | rfl | simp) | exact la_nil rfl | apply la_fn rfl | exact lend_same rfl rfl | exact lend_bor rfl rfl)) (fun p hp => ⟨1, by rw [List.mem_singleton.1 hp]; rfl⟩) (fun x hx => by cases hx), ?_⟩; (conv => whnf)
            refine ⟨true, _, [UInt8.ofNat (97 + i)], ⟨rfl, by simp [chunk], rfl, rfl⟩, rfl, ?_⟩; (conv => whnf)
            refine ⟨by show 1 + 1 ≤ 9223372036854775807; decide, ?_⟩; (conv => whnf)
            refine ⟨_, _, cD, (by repeat' (first | exact lends_nil | exact lend_dead | apply lends_cons | apply lend_agg | apply lend_one | exact all2_nil | apply all2_cons | exact la_lit rfl | exact la_int (by first | rfl | omega) | exact la_row rfl rfl | exact la_loc rfl rfl rfl (by first | rfl | simp [mkL_length]) (by first | rfl | simp) | exact la_nil rfl | apply la_fn rfl | exact lend_same rfl rfl | exact lend_bor rfl rfl)), ?_⟩; (conv => whnf)
            refine ⟨true, [(snap1 D i q2.2).enc], ⟨rfl, by simp [chunk], rfl, rfl⟩, ?_⟩; (conv => whnf)
            refine ⟨[(snap1 D i q2.2).enc], laid_map (f := DSnap.enc) (fun _ => rfl) [snap1 D i q2.2], rfl, by simp [chunk], rfl, by have := ha.1; simp [maxLen, chunk]; omega, by have := ha.1; simp [chunk]; omega, ?_⟩; (conv => whnf)
            (refine ⟨((i + 1 : Nat) : Int), by rw [← wrap64_id] <;> omega, ?_⟩; conv => whnf)
            exact lg_back ((i + 1, q2.1, acc ++ [snap1 D i q2.2]) : Nat × Src × List DSnap) ⟨by omega, k2.1, k2.2.1.trans (k1.2.trans hsz), okL_snoc ha (snap1_ok hDs i (by omega)), by rw [hk']; exact hF'⟩ (by (try dsimp only); omega) (weak_of (all_cons rfl (all_cons rfl (all_cons (eq_loc rfl (by simp [chunk])) (all_cons rfl all_nil)))) (all_cons rfl (all_cons rfl (all_cons rfl (all_cons (eq_row rfl (by simp [chunk])) all_nil)))) rfl rfl)
        · (conv => whnf)
          refine ⟨_, _, ptr_ok 0 (c2) rfl rfl (by repeat' (first | exact lends_nil | exact lend_dead | apply lends_cons | apply lend_agg | apply lend_one | exact all2_nil | apply all2_cons | exact la_lit rfl | exact la_int (by first | rfl | omega) | exact la_row rfl rfl | exact la_loc rfl rfl rfl (by first | rfl | simp [mkL_length]) (by first | rfl | simp) | exact la_nil rfl | apply la_fn rfl | exact lend_same rfl rfl | exact lend_bor rfl rfl)) (fun p hp => ⟨1, by rw [List.mem_singleton.1 hp]; rfl⟩) (fun x hx => by cases hx), ?_⟩; (conv => whnf)
          refine ⟨true, _, [UInt8.ofNat (97 + i)], ⟨rfl, by simp [chunk], rfl, rfl⟩, rfl, ?_⟩; (conv => whnf)
          refine ⟨by show 1 + 1 ≤ 9223372036854775807; decide, ?_⟩; (conv => whnf)
          refine ⟨_, _, cD, (by repeat' (first | exact lends_nil | exact lend_dead | apply lends_cons | apply lend_agg | apply lend_one | exact all2_nil | apply all2_cons | exact la_lit rfl | exact la_int (by first | rfl | omega) | exact la_row rfl rfl | exact la_loc rfl rfl rfl (by first | rfl | simp [mkL_length]) (by first | rfl | simp) | exact la_nil rfl | apply la_fn rfl | exact lend_same rfl rfl | exact lend_bor rfl rfl)), ?_⟩; (conv => whnf)
          refine ⟨true, [(snap1 D i q2.2).enc], ⟨rfl, by simp [chunk], rfl, rfl⟩, ?_⟩; (conv => whnf)
          refine ⟨[(snap1 D i q2.2).enc], laid_map (f := DSnap.enc) (fun _ => rfl) [snap1 D i q2.2], rfl, by simp [chunk], rfl, by have := ha.1; simp [maxLen, chunk]; omega, by have := ha.1; simp [chunk]; omega, ?_⟩; (conv => whnf)
          (refine ⟨((i + 1 : Nat) : Int), by rw [← wrap64_id] <;> omega, ?_⟩; conv => whnf)
          exact lg_back ((i + 1, q2.1, acc ++ [snap1 D i q2.2]) : Nat × Src × List DSnap) ⟨by omega, k2.1, k2.2.1.trans (k1.2.trans hsz), okL_snoc ha (snap1_ok hDs i (by omega)), by rw [hk']; exact hF'⟩ (by (try dsimp only); omega) (weak_of (all_cons rfl (all_cons rfl (all_cons (eq_loc rfl (by simp [chunk])) (all_cons rfl all_nil)))) (all_cons rfl (all_cons rfl (all_cons rfl (all_cons (eq_row rfl (by simp [chunk])) all_nil)))) rfl rfl)
      · (conv => whnf)
        refine ⟨_, _, ptr_ok 0 (c2) rfl rfl (by repeat' (first | exact lends_nil | exact lend_dead | apply lends_cons | apply lend_agg | apply lend_one | exact all2_nil | apply all2_cons | exact la_lit rfl | exact la_int (by first | rfl | omega) | exact la_row rfl rfl | exact la_loc rfl rfl rfl (by first | rfl | simp [mkL_length]) (by first | rfl | simp) | exact la_nil rfl | apply la_fn rfl | exact lend_same rfl rfl | exact lend_bor rfl rfl)) (fun p hp => ⟨1, by rw [List.mem_singleton.1 hp]; rfl⟩) (fun x hx => by cases hx), ?_⟩; (conv => whnf)
        refine ⟨((UInt8.ofNat (97 + i)).toNat : Int), (u8_nat _).symm, ?_⟩; (conv => whnf)
        refine ⟨true, _, [UInt8.ofNat (97 + i)], ⟨rfl, by simp [chunk], rfl, rfl⟩, rfl, ?_⟩; (conv => whnf)
        refine ⟨by show 1 + 1 ≤ 9223372036854775807; decide, ?_⟩; (conv => whnf)
        refine ⟨_, _, cD, (by repeat' (first | exact lends_nil | exact lend_dead | apply lends_cons | apply lend_agg | apply lend_one | exact all2_nil | apply all2_cons | exact la_lit rfl | exact la_int (by first | rfl | omega) | exact la_row rfl rfl | exact la_loc rfl rfl rfl (by first | rfl | simp [mkL_length]) (by first | rfl | simp) | exact la_nil rfl | apply la_fn rfl | exact lend_same rfl rfl | exact lend_bor rfl rfl)), ?_⟩; (conv => whnf)
        refine ⟨true, [(snap1 D i q2.2).enc], ⟨rfl, by simp [chunk], rfl, rfl⟩, ?_⟩; (conv => whnf)
        refine ⟨[(snap1 D i q2.2).enc], laid_map (f := DSnap.enc) (fun _ => rfl) [snap1 D i q2.2], rfl, by simp [chunk], rfl, by have := ha.1; simp [maxLen, chunk]; omega, by have := ha.1; simp [chunk]; omega, ?_⟩; (conv => whnf)
        (refine ⟨((i + 1 : Nat) : Int), by rw [← wrap64_id] <;> omega, ?_⟩; conv => whnf)
        exact lg_back ((i + 1, q2.1, acc ++ [snap1 D i q2.2]) : Nat × Src × List DSnap) ⟨by omega, k2.1, k2.2.1.trans (k1.2.trans hsz), okL_snoc ha (snap1_ok hDs i (by omega)), by rw [hk']; exact hF'⟩ (by (try dsimp only); omega) (weak_of (all_cons rfl (all_cons rfl (all_cons (eq_loc rfl (by simp [chunk])) (all_cons rfl all_nil)))) (all_cons rfl (all_cons rfl (all_cons rfl (all_cons (eq_row rfl (by simp [chunk])) all_nil)))) rfl rfl)
    · have hF' : snL D B.l k (i + 1) q1.1 acc = snL D B.l N 0 S [] := by
        rw [← hF, snL, e1, if_pos h1]
      (refine ⟨((i + 1 : Nat) : Int), by rw [← wrap64_id] <;> omega, ?_⟩; conv => whnf)
      exact lg_back ((i + 1, q1.1, acc) : Nat × Src × List DSnap) ⟨by omega, k1.1, k1.2.trans hsz, ⟨Nat.le_trans ha.1 (Nat.le_succ i), ha.2⟩, by rw [hk']; exact hF'⟩ (by (try dsimp only); omega) (weak_of (by repeat (first | refine all_cons (by first | rfl | exact eq_int rfl (by first | rfl | omega | (simp; done) | (simp; omega)) | exact eq_loc rfl (by first | rfl | omega | (simp; done) | (simp; omega)) | exact eq_bool rfl (by simp_all)) ?_ | exact all_nil)) (by repeat (first | refine all_cons (by first | rfl | exact eq_int rfl (by first | rfl | omega | (simp; done) | (simp; omega)) | exact eq_loc rfl (by first | rfl | omega | (simp; done) | (simp; omega)) | exact eq_bool rfl (by simp_all)) ?_ | exact all_nil)) rfl rfl)
  · have : i = N := by omega
    subst this
    rw [Nat.sub_self] at hF
    have hS' : snapsF D B.l S = snapsT D B.l S1 acc := by
      have e : (4 + S.size).toNat = i := by omega
      unfold snapsF
      rw [e, ← hF]; rfl
    rw [hS'] at hres
    have hal := ha.1
    obtain ⟨q1, e1⟩ : ∃ q, oneF B.l S1 15 = q := ⟨_, rfl⟩
    have c1 := one_c B hB S1 hS1 15 (inI_n (by omega))
    have k1 : (oneF B.l S1 15).1.ok B.l := (nF_ok hS1 (inI_n (k := 15) (by omega))).1
    rw [e1] at c1 k1
    obtain ⟨q2, e2⟩ : ∃ q, nF B.l q1.1 3 = q := ⟨_, rfl⟩
    have c2 := n_c B hB q1.1 k1 3 (inI_n (by omega))
    have k2 := nF_ok k1 (inI_n (k := 3) (by omega))
    rw [e2] at c2 k2
    have hT : snapsT D B.l S1 acc = if q1.2 = true ∧ 0 < acc.length then (if q2.2 = 0 then (q2.1, acc ++ [acc.getD 0 ⟨.empty, 0, .empty⟩]) else if q2.2 = 1 then (q2.1, acc.set 0 { acc.getD 0 ⟨.empty, 0, .empty⟩ with day := -1 }) else fillL D B.l (102 - acc.length) 0 q2.1 acc) else (q1.1, acc) := by
      unfold snapsT; rw [e1, e2]
    rw [hT] at hres
    refine ⟨_, _, ptr_ok 0 (c1) rfl rfl (by repeat' (first | exact lends_nil | exact lend_dead | apply lends_cons | apply lend_agg | apply lend_one | exact all2_nil | apply all2_cons | exact la_lit rfl | exact la_int (by first | rfl | omega) | exact la_row rfl rfl | exact la_loc rfl rfl rfl (by first | rfl | simp [mkL_length]) (by first | rfl | simp) | exact la_nil rfl | apply la_fn rfl | exact lend_same rfl rfl | exact lend_bor rfl rfl)) (fun p hp => ⟨1, by rw [List.mem_singleton.1 hp]; rfl⟩) (fun x hx => by cases hx), ?_⟩; (conv => whnf)
    (split <;> rename_i h1 <;> (try simp only [decide_eq_true_eq, decide_eq_false_iff_not, Bool.not_eq_true', Bool.not_eq_false', Bool.not_eq_true, Bool.not_eq_false, List.length_map] at h1) <;> conv => whnf)
    · (split <;> rename_i h2 <;> (try simp only [decide_eq_true_eq, decide_eq_false_iff_not, Bool.not_eq_true', Bool.not_eq_false', Bool.not_eq_true, Bool.not_eq_false, List.length_map] at h2) <;> conv => whnf)
      · have h0 : 0 < acc.length := by omega
        have eg : acc.getD 0 ⟨.empty, 0, .empty⟩ = acc[0] := getD_at h0 _
        rw [if_pos ⟨h1, h0⟩, eg] at hres
        refine ⟨_, _, ptr_ok 0 (c2) rfl rfl (by repeat' (first | exact lends_nil | exact lend_dead | apply lends_cons | apply lend_agg | apply lend_one | exact all2_nil | apply all2_cons | exact la_lit rfl | exact la_int (by first | rfl | omega) | exact la_row rfl rfl | exact la_loc rfl rfl rfl (by first | rfl | simp [mkL_length]) (by first | rfl | simp) | exact la_nil rfl | apply la_fn rfl | exact lend_same rfl rfl | exact lend_bor rfl rfl)) (fun p hp => ⟨1, by rw [List.mem_singleton.1 hp]; rfl⟩) (fun x hx => by cases hx), ?_⟩; (conv => whnf)
        (split <;> rename_i h3 <;> (try simp only [decide_eq_true_eq, decide_eq_false_iff_not, Bool.not_eq_true', Bool.not_eq_false', Bool.not_eq_true, Bool.not_eq_false, List.length_map] at h3) <;> conv => whnf)
        · rw [if_pos h3] at hres
          subst hres
          refine ⟨0, rfl, h0, ?_⟩; (conv => whnf)
          refine ⟨_, at_map0 h0, ?_⟩; (conv => whnf)
          refine ⟨true, [acc[0].enc], ⟨rfl, by simp [chunk], rfl, rfl⟩, ?_⟩; (conv => whnf)
          refine ⟨[acc[0].enc], laid_map (f := DSnap.enc) (fun _ => rfl) [acc[0]], rfl, by simp [chunk], rfl, by simp [maxLen, chunk]; omega, by simp [chunk]; omega, ?_⟩; (conv => whnf)
          exact ⟨⟨close_row rfl rfl (by simp [chunk]) (by simp [chunk]), trivial⟩, rfl, rfl⟩
        · rw [if_neg h3] at hres
          (split <;> rename_i h4 <;> (try simp only [decide_eq_true_eq, decide_eq_false_iff_not, Bool.not_eq_true', Bool.not_eq_false', Bool.not_eq_true, Bool.not_eq_false, List.length_map] at h4) <;> conv => whnf)
          · rw [if_pos h4] at hres
            subst hres
            refine ⟨0, rfl, h0, ?_⟩; (conv => whnf)
            refine ⟨_, at_map0 h0, ?_⟩; (conv => whnf)
            refine ⟨(acc.set 0 { acc[0] with day := -1 }).map DSnap.enc, by rw [List.map_set]; rfl, ?_⟩; (conv => whnf)
            exact ⟨⟨close_row rfl rfl (by simp [chunk]) (by simp [chunk]), trivial⟩, rfl, rfl⟩
          · rw [if_neg h4] at hres
            refine ⟨LG (fun p : Nat × Src × List DSnap => p.2.1.ok B.l ∧ okL 101 p.2.2 ∧ p.1 ≤ p.2.2.length ∧ fillL D B.l (102 - p.2.2.length) p.1 p.2.1 p.2.2 = res) (fun p => 102 - p.2.2.length)
                (fun p => AS.of [(0, .one (.ptr 0 0)), (2, .one (.lit (.slice none 0 0))), (3, .one (.loc 96 0 p.2.2.length)), (5, .one (.lit (.int .i64 (p.1 : Nat))))]
                  [(0, .var ((p.2.1.cells B).map .lit)), (1, .par (.slice B.A B.l.length B.cap) (.row true 1 (B.l.map byteE))), (8, .pin 0 (.var b)), (96, .row true 3 (p.2.2.map DSnap.enc))]),
              lg_init (0, q2.1, acc) ⟨k2.1, ⟨by show acc.length ≤ 101; omega, ha.2⟩, Nat.zero_le _, hres⟩ (weak_of (by repeat (first | refine all_cons (by first | rfl | exact eq_int rfl (by first | rfl | omega | (simp; done) | (simp; omega)) | exact eq_loc rfl (by first | rfl | omega | (simp; done) | (simp; omega)) | exact eq_bool rfl (by simp_all)) ?_ | exact all_nil)) (by repeat (first | refine all_cons (by first | rfl | exact eq_int rfl (by first | rfl | omega | (simp; done) | (simp; omega)) | exact eq_loc rfl (by first | rfl | omega | (simp; done) | (simp; omega)) | exact eq_bool rfl (by simp_all)) ?_ | exact all_nil)) rfl rfl), ?_⟩
            clear hres hT
            rintro σ m0 ⟨⟨j, S2, acc2⟩, ⟨hS2, ha2, hj, hF2⟩, rfl, rfl⟩
            simp only at hS2 ha2 hj hF2 ⊢
            have hal2 := ha2.1
            obtain ⟨k, hk⟩ : ∃ k, 102 - acc2.length = k + 1 := ⟨102 - acc2.length - 1, by omega⟩
            rw [hk] at hF2
            obtain ⟨q3, e3⟩ : ∃ q, nF B.l S2 3 = q := ⟨_, rfl⟩
            have c3 := n_c B hB S2 hS2 3 (inI_n (by omega))
            have k3 := nF_ok hS2 (inI_n (k := 3) (by omega))
            rw [e3] at c3 k3
            rw [fillL, e3] at hF2
            refine ⟨_, Weak.refl _, ?_⟩
            (conv => whnf)
            refine ⟨_, _, ptr_ok 0 (c3) rfl rfl (by repeat' (first | exact lends_nil | exact lend_dead | apply lends_cons | apply lend_agg | apply lend_one | exact all2_nil | apply all2_cons | exact la_lit rfl | exact la_int (by first | rfl | omega) | exact la_row rfl rfl | exact la_loc rfl rfl rfl (by first | rfl | simp [mkL_length]) (by first | rfl | simp) | exact la_nil rfl | apply la_fn rfl | exact lend_same rfl rfl | exact lend_bor rfl rfl)) (fun p hp => ⟨1, by rw [List.mem_singleton.1 hp]; rfl⟩) (fun x hx => by cases hx), ?_⟩; (conv => whnf)
            refine ⟨99 + q3.2, by rw [← wrap64_id] <;> omega, ?_⟩; (conv => whnf)
            (split <;> rename_i h5 <;> (try simp only [decide_eq_true_eq, decide_eq_false_iff_not, Bool.not_eq_true', Bool.not_eq_false', Bool.not_eq_true, Bool.not_eq_false, List.length_map] at h5) <;> conv => whnf)
            · rw [if_pos (by omega)] at hF2
              have hd : (j : Int).tdiv 10 = ((j / 10 : Nat) : Int) := by rw [Int.ofNat_tdiv]; rfl
              have hm : (j : Int).tmod 10 = ((j % 10 : Nat) : Int) := by rw [Int.ofNat_tmod]; rfl
              refine ⟨by decide, ((j / 10 : Nat) : Int), by show _ = IntKind.i64.wrap ((j : Int).tdiv 10); rw [hd, ← wrap64_id] <;> omega, ?_⟩; (conv => whnf)
              refine ⟨((97 + j / 10 : Nat) : Int), by rw [← wrap64_id] <;> omega, ?_⟩; (conv => whnf)
              refine ⟨((UInt8.ofNat (97 + j / 10)).toNat : Int), (u8_nat _).symm, ?_⟩; (conv => whnf)
              refine ⟨by decide, ((j % 10 : Nat) : Int), by show _ = (j : Int).tmod 10; rw [hm], ?_⟩; (conv => whnf)
              refine ⟨((48 + j % 10 : Nat) : Int), by rw [← wrap64_id] <;> omega, ?_⟩; (conv => whnf)
              refine ⟨((UInt8.ofNat (48 + j % 10)).toNat : Int), (u8_nat _).symm, ?_⟩; (conv => whnf)
              refine ⟨true, _, [UInt8.ofNat (97 + j / 10), UInt8.ofNat (48 + j % 10)], ⟨rfl, by simp [chunk], rfl, rfl⟩, rfl, ?_⟩; (conv => whnf)
              refine ⟨by show 1 + 2 ≤ 9223372036854775807; decide, ?_⟩; (conv => whnf)
              refine ⟨_, _, cD, (by repeat' (first | exact lends_nil | exact lend_dead | apply lends_cons | apply lend_agg | apply lend_one | exact all2_nil | apply all2_cons | exact la_lit rfl | exact la_int (by first | rfl | omega) | exact la_row rfl rfl | exact la_loc rfl rfl rfl (by first | rfl | simp [mkL_length]) (by first | rfl | simp) | exact la_nil rfl | apply la_fn rfl | exact lend_same rfl rfl | exact lend_bor rfl rfl)), ?_⟩; (conv => whnf)
              refine ⟨true, [(snapZ D j).enc], ⟨rfl, by simp [chunk], rfl, rfl⟩, ?_⟩; (conv => whnf)
              refine ⟨[(snapZ D j).enc], laid_map (f := DSnap.enc) (fun _ => rfl) [snapZ D j], rfl, by simp [chunk], rfl, by simp [maxLen, chunk]; omega, by simp [chunk]; omega, ?_⟩; (conv => whnf)
              refine ⟨((j + 1 : Nat) : Int), by rw [← wrap64_id] <;> omega, ?_⟩; (conv => whnf)
              have hacc : okL 100 acc2 := ⟨by omega, ha2.2⟩
              exact lg_back ((j + 1, q3.1, acc2 ++ [snapZ D j]) : Nat × Src × List DSnap) ⟨k3.1, okL_snoc hacc (snapZ_ok hDs (by omega)), by simp; omega, by
                have e : 102 - (acc2 ++ [snapZ D j]).length = k := by simp; omega
                rw [e]; exact hF2⟩ (by simp; omega) (weak_of (all_cons rfl (all_cons rfl (all_cons (eq_loc rfl (by simp [chunk])) (all_cons rfl all_nil)))) (all_cons rfl (all_cons rfl (all_cons rfl (all_cons (eq_row rfl (by simp [chunk])) all_nil)))) rfl rfl)
            · rw [if_neg (by omega)] at hF2
              subst hF2
              exact ⟨⟨close_row rfl rfl (by simp) (by simp), trivial⟩, rfl, rfl⟩
      · rw [if_neg (by omega)] at hres
        subst hres
        exact ⟨⟨close_row rfl rfl (by simp) (by simp), trivial⟩, rfl, rfl⟩
    · rw [if_neg (by rw [h1]; simp)] at hres
      subst hres
      exact ⟨⟨close_row rfl rfl (by simp) (by simp), trivial⟩, rfl, rfl⟩
end Go.Proofs.Ytlijeincckbdaaa
namespace Go.Proofs.Ytlijeincckbdaaa
open Go.RowKit
set_option linter.unusedSimpArgs false
set_option linter.unusedVariables false
set_option maxRecDepth 100000
set_option maxHeartbeats 8000000
def keepP (l : List UInt8) : DPolicy := (polF l (sourceF l)).2
def keepL (D : ByteArray) (l : List UInt8) : List DSnap := (snapsF D l (polF l (sourceF l)).1).2
theorem keepP_ok (l : List UInt8) : (keepP l).ok := (polF_ok (sourceF_ok l)).2.2
theorem keepL_ok {D : ByteArray} (hD : D.size = 32) (l : List UInt8) : okL 101 (keepL D l) := (snapsF_ok hD (polF_ok (sourceF_ok l)).1).2
theorem drawKP_c (l : List UInt8) (hl : l.length ≤ 4294967296) (D : ByteArray) (hD : digF ⟨#[114]⟩ = D) (p : DPolicy) (s : List DSnap) (hp : keepP l = p) (hs : keepL D l = s) :
    Fun1 Try.prog 70 [.one (.row true 1 (l.map byteE))] (.tup [(true, p.enc), (false, [.row true 3 (s.map DSnap.enc)])]) := by
  obtain ⟨p1, e1⟩ : ∃ p, polF l (sourceF l) = p := ⟨_, rfl⟩
  have k1 := polF_ok (sourceF_ok l)
  rw [e1] at k1
  obtain ⟨p2, e2⟩ : ∃ p, snapsF D l p1.1 = p := ⟨_, rfl⟩
  unfold keepP at hp
  unfold keepL at hs
  rw [e1] at hp hs
  rw [e2] at hs
  subst hp hs
  refine law_row1 (E := tbO70) (tbF_ok _) mix (fn := Try.f70) Try.func70 rfl (by kernel_rfl) (by kernel_rfl) (by simp [Try.f70]) (by show (p1.2.enc.all (AV.nb 5) && (([AV.row true 3 (p2.2.map DSnap.enc)].all (AV.nb 5)) && true)) = true; rw [show p1.2.enc.all (AV.nb 5) = true from rfl]; simp; exact nb_map (n := 4) (fun y => DSnap.enc_nbn 4 y) _) fun A cap => ?_
  have cs := source_c ⟨A, cap, l⟩ hl
  have c1 := policy_c ⟨A, cap, l⟩ hl (sourceF l) (sourceF_ok l) p1 e1
  have c2 := snaps_c ⟨A, cap, l⟩ hl p1.1 k1.1 D hD p2 e2
  simp only [Byt.pars, List.length_map] at cs c1 c2 ⊢
  (conv => whnf)
  refine ⟨_, _, new_ok 112 cs rfl (fun p hp => ⟨0, by rw [List.mem_singleton.1 hp]; rfl⟩) rfl, ?_⟩; (conv => whnf)
  refine ⟨_, _, ptr_ok 0 c1 rfl rfl (by repeat' (first | exact lends_nil | exact lend_dead | apply lends_cons | apply lend_agg | apply lend_one | exact all2_nil | apply all2_cons | exact la_lit rfl | exact la_int (by first | rfl | omega) | exact la_row rfl rfl | exact la_loc rfl rfl rfl (by first | rfl | simp [mkL_length]) (by first | rfl | simp) | exact la_nil rfl | apply la_fn rfl | exact lend_same rfl rfl | exact lend_bor rfl rfl)) (fun p hp => ⟨0, by rw [List.mem_singleton.1 hp]; rfl⟩) (fun x hx => by cases hx), ?_⟩; (conv => whnf)
  refine ⟨?_, ?_, trivial⟩
  · (conv => whnf)
    refine ⟨_, _, ptr_ok 192 c2 rfl rfl (by repeat' (first | exact lends_nil | exact lend_dead | apply lends_cons | apply lend_agg | apply lend_one | exact all2_nil | apply all2_cons | exact la_lit rfl | exact la_int (by first | rfl | omega) | exact la_row rfl rfl | exact la_loc rfl rfl rfl (by first | rfl | simp [mkL_length]) (by first | rfl | simp) | exact la_nil rfl | apply la_fn rfl | exact lend_same rfl rfl | exact lend_bor rfl rfl)) (fun p hp => ⟨0, by rw [List.mem_singleton.1 hp]; rfl⟩) (fun x hx => by replace hx : x ∈ [(192, Blk.row true 3 (p2.2.map DSnap.enc))] := hx; rw [List.mem_singleton.1 hx]; rfl), ?_⟩; (conv => whnf)
    exact ⟨rfl, ⟨close_int rfl, close_int rfl, close_int rfl, close_int rfl, trivial⟩, rfl, ⟨close_row rfl rfl (by simp) (by simp), trivial⟩, trivial⟩
  · (conv => whnf)
    refine ⟨_, _, ptr_ok 192 c2 rfl rfl (by repeat' (first | exact lends_nil | exact lend_dead | apply lends_cons | apply lend_agg | apply lend_one | exact all2_nil | apply all2_cons | exact la_lit rfl | exact la_int (by first | rfl | omega) | exact la_row rfl rfl | exact la_loc rfl rfl rfl (by first | rfl | simp [mkL_length]) (by first | rfl | simp) | exact la_nil rfl | apply la_fn rfl | exact lend_same rfl rfl | exact lend_bor rfl rfl)) (fun p hp => ⟨0, by rw [List.mem_singleton.1 hp]; rfl⟩) (fun x hx => by replace hx : x ∈ [(192, Blk.row true 3 (p2.2.map DSnap.enc))] := hx; rw [List.mem_singleton.1 hx]; rfl), ?_⟩; (conv => whnf)
    exact ⟨rfl, ⟨close_int rfl, close_int rfl, close_int rfl, close_int rfl, trivial⟩, rfl, ⟨close_row rfl rfl (by simp) (by simp), trivial⟩, trivial⟩
theorem lwText_c (l : List ByteArray) (hl : l.length ≤ 4294967295) (t : ByteArray) : Fun1 Try.prog 76 [.one (.row true 1 (l.map eStr)), .one (.lit (.string t))] (.one (.lit (.bool (decide (t ∈ l))))) := by
  refine fun1_of_vc tb_ok mix (fn := Try.f76) Try.func76 rfl (by kernel_rfl) (by kernel_rfl) (by simp [Try.f76]) (by rfl) ?_
  (conv => whnf)
  refine ⟨LG (fun i : Nat => i ≤ l.length ∧ ∀ j (h : j < l.length), j < i → l[j] ≠ t) (fun i => l.length - i) (fun i => AS.of [(0, .one (.row true 1 (l.map eStr))), (1, .one (.lit (.string t))), (4, .one (.lit (.bool false))), (5, .one (.lit (.int .i64 (i : Nat))))] []), lg_init 0 ⟨by omega, fun t _ h => by omega⟩ (weak_of (by repeat (first | refine all_cons (by first | rfl | exact eq_int rfl (by first | rfl | omega | (simp; done) | (simp; omega)) | exact eq_loc rfl (by first | rfl | omega | (simp; done) | (simp; omega)) | exact eq_bool rfl (by simp_all)) ?_ | exact all_nil)) (by repeat (first | refine all_cons (by first | rfl | exact eq_int rfl (by first | rfl | omega | (simp; done) | (simp; omega)) | exact eq_loc rfl (by first | rfl | omega | (simp; done) | (simp; omega)) | exact eq_bool rfl (by simp_all)) ?_ | exact all_nil)) rfl rfl), ?_⟩
  rintro σ k ⟨i, ⟨hi, hc⟩, rfl, rfl⟩
  refine ⟨_, Weak.refl _, ?_⟩
  (conv => whnf)
  (split <;> rename_i h <;> (try simp only [decide_eq_true_eq, decide_eq_false_iff_not, Bool.not_eq_true', Bool.not_eq_false', Bool.not_eq_true, Bool.not_eq_false, List.length_map] at h) <;> conv => whnf)
  · have hlt : i < l.length := by omega
    refine ⟨i, rfl, _, at_map hlt, ?_⟩; (conv => whnf)
    (split <;> rename_i h2 <;> (try simp only [decide_eq_true_eq, decide_eq_false_iff_not, Bool.not_eq_true', Bool.not_eq_false', Bool.not_eq_true, Bool.not_eq_false, List.length_map] at h2) <;> conv => whnf)
    · exact ⟨close_bool (decide_eq_true (by rw [← h2]; exact List.getElem_mem hlt)), trivial⟩
    · (refine ⟨((i + 1 : Nat) : Int), by rw [← wrap64_id] <;> omega, ?_⟩; conv => whnf)
      exact lg_back (i + 1) ⟨by omega, fun j h hj => by
        by_cases e : j = i
        · subst e; exact h2
        · exact hc j h (by omega)⟩ (by (try dsimp only); omega) (weak_of (by repeat (first | refine all_cons (by first | rfl | exact eq_int rfl (by first | rfl | omega | (simp; done) | (simp; omega)) | exact eq_loc rfl (by first | rfl | omega | (simp; done) | (simp; omega)) | exact eq_bool rfl (by simp_all)) ?_ | exact all_nil)) (by repeat (first | refine all_cons (by first | rfl | exact eq_int rfl (by first | rfl | omega | (simp; done) | (simp; omega)) | exact eq_loc rfl (by first | rfl | omega | (simp; done) | (simp; omega)) | exact eq_bool rfl (by simp_all)) ?_ | exact all_nil)) rfl rfl)
  · have : i = l.length := by omega
    subst this
    refine ⟨close_bool (decide_eq_false fun hm => ?_), trivial⟩
    obtain ⟨j, hj, e⟩ := List.mem_iff_getElem.1 hm
    exact hc j hj hj e
def atF (m : List UInt8) (i : Nat) (of : Int) : Int := if of ≤ 1 ∨ m.length = 0 then 0 else ((m.getD (i % m.length) 0).toNat : Int).tmod of
theorem atF_in (m : List UInt8) (i : Nat) : 0 ≤ atF m i 3 ∧ atF m i 3 ≤ 2 := by
  unfold atF
  split
  · omega
  · have h : (((m.getD (i % m.length) 0).toNat : Int)).tmod 3 = (((m.getD (i % m.length) 0).toNat % 3 : Nat) : Int) := by rw [Int.ofNat_tmod]; rfl
    rw [h]; omega
theorem lwAt_c (m : List UInt8) (hm : m.length ≤ 4294967296) (i : Nat) (hi : i ≤ 1000) : Fun1 Try.prog 74 [.one (.row true 1 (m.map byteE)), .one (.lit (.int .i64 (i : Int))), .one (.lit (.int .i64 3))] (.one (.lit (.int .i64 (atF m i 3)))) := by
  refine fun1_of_vc tb_ok mix (fn := Try.f74) Try.func74 rfl (by kernel_rfl) (by kernel_rfl) (by simp [Try.f74]) (by rfl) ?_
  (conv => whnf)
  (split <;> rename_i h <;> (try simp only [decide_eq_true_eq, decide_eq_false_iff_not, Bool.not_eq_true', Bool.not_eq_false', Bool.not_eq_true, Bool.not_eq_false, List.length_map] at h) <;> conv => whnf)
  · exact ⟨close_int (by unfold atF; rw [if_pos (.inr (by omega))]), trivial⟩
  · have h0 : m.length ≠ 0 := by omega
    have h1 : (i : Int).tmod (m.length : Int) = ((i % m.length : Nat) : Int) := by rw [Int.ofNat_tmod]
    have hlt : i % m.length < m.length := Nat.mod_lt _ (by omega)
    refine ⟨by simpa using h0, ((i % m.length : Nat) : Int), by rw [← h1]; simp, ?_⟩; (conv => whnf)
    refine ⟨i % m.length, rfl, _, at_map hlt, ?_⟩; (conv => whnf)
    have hb := (m[i % m.length]).toNat_lt
    refine ⟨((m[i % m.length]).toNat : Int), by rw [← wrap64_id] <;> omega, ?_⟩; (conv => whnf)
    refine ⟨by decide, atF m i 3, by unfold atF; rw [if_neg (by omega), getD_at hlt], ?_⟩; (conv => whnf)
    exact ⟨close_int rfl, trivial⟩
end Go.Proofs.Ytlijeincckbdaaa
namespace Go.Proofs.Ytlijeincckbdaaa
open Go.RowKit
theorem fields_pol : (Try.prog.fieldsOf 103).toList.map (fun f => (f.name == "_", f.type, f.offset)) = [(false, 2, 0), (false, 2, 1), (false, 2, 2), (false, 2, 3)] := by kernel_rfl
theorem eq_pol (a b c d : Int) (w : World) : (binOp .eql 103 (.agg #[.int .i64 a, .int .i64 b, .int .i64 c, .int .i64 d]) (.agg #[.int .i64 0, .int .i64 0, .int .i64 0, .int .i64 0])).run Try.prog w = .ok (.bool (decide (a = 0) && (decide (b = 0) && (decide (c = 0) && decide (d = 0))))) w := by
  have hu : Try.prog.underlying 103 = some (.struct (Try.prog.fieldsOf 103)) := by kernel_rfl
  have hp : Try.prog.stoodInHeld 103 = false := by kernel_rfl
  rw [run_eql_struct, run_equalIn_struct w 9999 _ _ _ hu hp]
  have key : (Op.eqFields 9999 #[.int .i64 a, .int .i64 b, .int .i64 c, .int .i64 d] #[.int .i64 0, .int .i64 0, .int .i64 0, .int .i64 0] (Try.prog.fieldsOf 103).toList).run Try.prog w = .ok (decide (a = 0) && (decide (b = 0) && (decide (c = 0) && decide (d = 0)))) w := by
    have h := fields_pol
    generalize (Try.prog.fieldsOf 103).toList = fs at h
    obtain ⟨f, g, i, j, rfl⟩ : ∃ f g i j, fs = [f, g, i, j] := by
      rcases fs with _ | ⟨f, _ | ⟨g, _ | ⟨i, _ | ⟨j, _ | ⟨k, fs⟩⟩⟩⟩⟩
      · simp at h
      · simp at h
      · simp at h
      · simp at h
      · exact ⟨f, g, i, j, rfl⟩
      · simp at h
    simp only [List.map_cons, List.map_nil, List.cons.injEq, Prod.mk.injEq, beq_eq_false_iff_ne, and_true] at h
    obtain ⟨⟨f1, f2, f3⟩, ⟨g1, g2, g3⟩, ⟨i1, i2, i3⟩, j1, j2, j3⟩ := h
    have t2 : tyI Try.prog 2 = some (1, false) := by kernel_rfl
    have u2 : Try.prog.underlying 2 = some (.int .i64) := by kernel_rfl
    have p (x0 x1 x2 x3 : Int) : (part 2 #[.int .i64 x0, .int .i64 x1, .int .i64 x2, .int .i64 x3] 0).run Try.prog w = .ok (.int .i64 x0) w ∧ (part 2 #[.int .i64 x0, .int .i64 x1, .int .i64 x2, .int .i64 x3] 1).run Try.prog w = .ok (.int .i64 x1) w ∧ (part 2 #[.int .i64 x0, .int .i64 x1, .int .i64 x2, .int .i64 x3] 2).run Try.prog w = .ok (.int .i64 x2) w ∧ (part 2 #[.int .i64 x0, .int .i64 x1, .int .i64 x2, .int .i64 x3] 3).run Try.prog w = .ok (.int .i64 x3) w :=
      ⟨run_part (P := Try.prog) t2 _ 0 (by show 1 ≤ 4; decide) w, run_part (P := Try.prog) t2 _ 1 (by show 2 ≤ 4; decide) w, run_part (P := Try.prog) t2 _ 2 (by show 3 ≤ 4; decide) w, run_part (P := Try.prog) t2 _ 3 (by show 4 ≤ 4; decide) w⟩
    have e (x y : Int) : (Op.equalIn 9999 2 (.int .i64 x) (.int .i64 y)).run Try.prog w = .ok (decide (x = y)) w := by
      rw [run_equalIn_int w 9998 2 .i64 .i64 x y u2]; congr 1
    have fin : ∀ x0 x1 x2 x3 y0 y1 y2 y3 : Int, (Op.eqFields 9999 #[.int .i64 x0, .int .i64 x1, .int .i64 x2, .int .i64 x3] #[.int .i64 y0, .int .i64 y1, .int .i64 y2, .int .i64 y3] [f, g, i, j]).run Try.prog w = .ok (decide (x0 = y0) && (decide (x1 = y1) && (decide (x2 = y2) && decide (x3 = y3)))) w := by
      intro x0 x1 x2 x3 y0 y1 y2 y3
      obtain ⟨a0, a1, a2, a3⟩ := p x0 x1 x2 x3
      obtain ⟨z0, z1, z2, z3⟩ := p y0 y1 y2 y3
      simp only [Op.eqFields, ne_eq, f1, g1, i1, j1, not_false_eq_true, if_true, f2, f3, g2, g3, i2, i3, j2, j3, Sem.run_bind, a0, z0, e, Result.andThen_ok]
      cases h0 : decide (x0 = y0)
      · simp
      simp only [Bool.not_true, Bool.false_eq_true, if_false, a1, z1, e, Result.andThen_ok, Bool.true_and, Sem.run_bind]
      cases h1 : decide (x1 = y1)
      · simp
      simp only [Bool.not_true, Bool.false_eq_true, if_false, a2, z2, e, Result.andThen_ok, Bool.true_and, Sem.run_bind]
      cases h2 : decide (x2 = y2)
      · simp
      simp only [Bool.not_true, Bool.false_eq_true, if_false, a3, z3, e, Result.andThen_ok, Bool.true_and, Sem.run_bind]
      cases h3 : decide (x3 = y3) <;> simp
    exact fin a b c d 0 0 0 0
  rw [key]; rfl
theorem guard_pol : Try.prog.eqGuardType Try.prog.depth 103 = false := by kernel_rfl
end Go.Proofs.Ytlijeincckbdaaa
namespace Go.Proofs.Ytlijeincckbdaaa
open Go.RowKit
set_option linter.unusedSimpArgs false
set_option linter.unusedVariables false
set_option maxRecDepth 100000
set_option maxHeartbeats 8000000
theorem fnKeep_c (l m : List UInt8) (hl0 : l.length ≤ 9223372036854775807) (hm0 : m.length ≤ 9223372036854775807) :
    Fun1 Try.prog 13 [.one (.row true 1 (l.map byteE)), .one (.row true 1 (m.map byteE))] (.one (.lit (.bool true))) := by
  by_cases hl1 : 1048576 < l.length
  · refine law_row2 (E := tb) tb_ok mix (fn := Try.f13) Try.func13 rfl (by kernel_rfl) (by kernel_rfl) (by simp [Try.f13]) rfl fun A cap A2 cap2 => ?_
    simp only [List.length_map]
    (conv => whnf)
    (split <;> rename_i hl <;> (try simp only [decide_eq_true_eq, decide_eq_false_iff_not, Bool.not_eq_true', Bool.not_eq_false', Bool.not_eq_true, Bool.not_eq_false, List.length_map] at hl) <;> conv => whnf)
    · exact ⟨close_bool rfl, trivial⟩
    · omega
  by_cases hm1 : 1048576 < m.length
  · refine law_row2 (E := tb) tb_ok mix (fn := Try.f13) Try.func13 rfl (by kernel_rfl) (by kernel_rfl) (by simp [Try.f13]) rfl fun A cap A2 cap2 => ?_
    simp only [List.length_map]
    (conv => whnf)
    (split <;> rename_i hl <;> (try simp only [decide_eq_true_eq, decide_eq_false_iff_not, Bool.not_eq_true', Bool.not_eq_false', Bool.not_eq_true, Bool.not_eq_false, List.length_map] at hl) <;> conv => whnf)
    · omega
    (split <;> rename_i hm <;> (try simp only [decide_eq_true_eq, decide_eq_false_iff_not, Bool.not_eq_true', Bool.not_eq_false', Bool.not_eq_true, Bool.not_eq_false, List.length_map] at hm) <;> conv => whnf)
    · exact ⟨close_bool rfl, trivial⟩
    · omega
  obtain ⟨D, hD⟩ : ∃ D, digF ⟨#[114]⟩ = D := ⟨_, rfl⟩
  have hDs : D.size = 32 := by rw [← hD]; exact digF_size _
  obtain ⟨p, hp⟩ : ∃ p, keepP l = p := ⟨_, rfl⟩
  obtain ⟨s, hs⟩ : ∃ s, keepL D l = s := ⟨_, rfl⟩
  have hpok := keepP_ok l
  have hsok := keepL_ok hDs l
  rw [hp] at hpok
  rw [hs] at hsok
  obtain ⟨hsl, hsok⟩ := hsok
  have cdraw := drawKP_c l (by omega) D hD p s hp hs
  clear hp hs
  obtain ⟨k, hk⟩ : ∃ k, chooseN p s true = k := ⟨_, rfl⟩
  obtain ⟨f, hf⟩ : ∃ f, chooseN p s false = f := ⟨_, rfl⟩
  have ck := keepImpl_c p s (by omega) hsok
  have cf := forgetImpl_c p s (by omega) hsok
  rw [hk] at ck
  rw [hf] at cf
  have cp := polSpec_c p
  have cs := snapsSpec_c s (by omega) hsok
  by_cases h0 : polOk p = false
  · refine law_row2 (E := tb) tb_ok mix (fn := Try.f13) Try.func13 rfl (by kernel_rfl) (by kernel_rfl) (by simp [Try.f13]) rfl fun A cap A2 cap2 => ?_
    simp only [List.length_map]
    have e1 : k = [] := by rw [← hk]; simp [chooseN, h0]
    have e2 : f = [] := by rw [← hf]; simp [chooseN, h0]
    subst e1 e2
    rw [h0] at cp
    (conv => whnf)
    (split <;> rename_i hl <;> (try simp only [decide_eq_true_eq, decide_eq_false_iff_not, Bool.not_eq_true', Bool.not_eq_false', Bool.not_eq_true, Bool.not_eq_false, List.length_map] at hl) <;> conv => whnf)
    · omega
    (split <;> rename_i hm <;> (try simp only [decide_eq_true_eq, decide_eq_false_iff_not, Bool.not_eq_true', Bool.not_eq_false', Bool.not_eq_true, Bool.not_eq_false, List.length_map] at hm) <;> conv => whnf)
    · omega
    refine ⟨_, _, cdraw, lends_cons (lend_one (la_par 0 rfl)) lends_nil, ?_⟩; (conv => whnf)
    refine ⟨_, _, ck, (by repeat' (first | exact lends_nil | exact lend_dead | apply lends_cons | apply lend_agg | apply lend_one | exact all2_nil | apply all2_cons | exact la_lit rfl | exact la_int (by first | rfl | omega) | exact la_row rfl rfl | exact la_loc rfl rfl rfl (by first | rfl | simp [mkL_length]) (by first | rfl | simp) | exact la_nil rfl | apply la_fn rfl | exact lend_same rfl rfl | exact lend_bor rfl rfl)), ?_⟩; (conv => whnf)
    refine ⟨_, _, cf, (by repeat' (first | exact lends_nil | exact lend_dead | apply lends_cons | apply lend_agg | apply lend_one | exact all2_nil | apply all2_cons | exact la_lit rfl | exact la_int (by first | rfl | omega) | exact la_row rfl rfl | exact la_loc rfl rfl rfl (by first | rfl | simp [mkL_length]) (by first | rfl | simp) | exact la_nil rfl | apply la_fn rfl | exact lend_same rfl rfl | exact lend_bor rfl rfl)), ?_⟩; (conv => whnf)
    refine ⟨_, _, cp, (by repeat' (first | exact lends_nil | exact lend_dead | apply lends_cons | apply lend_agg | apply lend_one | exact all2_nil | apply all2_cons | exact la_lit rfl | exact la_int (by first | rfl | omega) | exact la_row rfl rfl | exact la_loc rfl rfl rfl (by first | rfl | simp [mkL_length]) (by first | rfl | simp) | exact la_nil rfl | apply la_fn rfl | exact lend_same rfl rfl | exact lend_bor rfl rfl)), ?_⟩; (conv => whnf)
    refine ⟨0, by decide, ?_⟩; (conv => whnf)
    exact ⟨close_bool rfl, trivial⟩
  have h1 : polOk p = true := by simpa using h0
  clear h0
  rw [h1] at cp
  by_cases h0 : snapsOk s = false
  · refine law_row2 (E := tb) tb_ok mix (fn := Try.f13) Try.func13 rfl (by kernel_rfl) (by kernel_rfl) (by simp [Try.f13]) rfl fun A cap A2 cap2 => ?_
    simp only [List.length_map]
    have e1 : k = [] := by rw [← hk]; simp [chooseN, h0]
    have e2 : f = [] := by rw [← hf]; simp [chooseN, h0]
    subst e1 e2
    rw [h0] at cs
    (conv => whnf)
    (split <;> rename_i hl <;> (try simp only [decide_eq_true_eq, decide_eq_false_iff_not, Bool.not_eq_true', Bool.not_eq_false', Bool.not_eq_true, Bool.not_eq_false, List.length_map] at hl) <;> conv => whnf)
    · omega
    (split <;> rename_i hm <;> (try simp only [decide_eq_true_eq, decide_eq_false_iff_not, Bool.not_eq_true', Bool.not_eq_false', Bool.not_eq_true, Bool.not_eq_false, List.length_map] at hm) <;> conv => whnf)
    · omega
    refine ⟨_, _, cdraw, lends_cons (lend_one (la_par 0 rfl)) lends_nil, ?_⟩; (conv => whnf)
    refine ⟨_, _, ck, (by repeat' (first | exact lends_nil | exact lend_dead | apply lends_cons | apply lend_agg | apply lend_one | exact all2_nil | apply all2_cons | exact la_lit rfl | exact la_int (by first | rfl | omega) | exact la_row rfl rfl | exact la_loc rfl rfl rfl (by first | rfl | simp [mkL_length]) (by first | rfl | simp) | exact la_nil rfl | apply la_fn rfl | exact lend_same rfl rfl | exact lend_bor rfl rfl)), ?_⟩; (conv => whnf)
    refine ⟨_, _, cf, (by repeat' (first | exact lends_nil | exact lend_dead | apply lends_cons | apply lend_agg | apply lend_one | exact all2_nil | apply all2_cons | exact la_lit rfl | exact la_int (by first | rfl | omega) | exact la_row rfl rfl | exact la_loc rfl rfl rfl (by first | rfl | simp [mkL_length]) (by first | rfl | simp) | exact la_nil rfl | apply la_fn rfl | exact lend_same rfl rfl | exact lend_bor rfl rfl)), ?_⟩; (conv => whnf)
    refine ⟨_, _, cp, (by repeat' (first | exact lends_nil | exact lend_dead | apply lends_cons | apply lend_agg | apply lend_one | exact all2_nil | apply all2_cons | exact la_lit rfl | exact la_int (by first | rfl | omega) | exact la_row rfl rfl | exact la_loc rfl rfl rfl (by first | rfl | simp [mkL_length]) (by first | rfl | simp) | exact la_nil rfl | apply la_fn rfl | exact lend_same rfl rfl | exact lend_bor rfl rfl)), ?_⟩; (conv => whnf)
    refine ⟨_, _, cs, (by repeat' (first | exact lends_nil | exact lend_dead | apply lends_cons | apply lend_agg | apply lend_one | exact all2_nil | apply all2_cons | exact la_lit rfl | exact la_int (by first | rfl | omega) | exact la_row rfl rfl | exact la_loc rfl rfl rfl (by first | rfl | simp [mkL_length]) (by first | rfl | simp) | exact la_nil rfl | apply la_fn rfl | exact lend_same rfl rfl | exact lend_bor rfl rfl)), ?_⟩; (conv => whnf)
    refine ⟨0, by decide, ?_⟩; (conv => whnf)
    exact ⟨close_bool rfl, trivial⟩
  have h2 : snapsOk s = true := by simpa using h0
  clear h0
  rw [h2] at cs
  have hp100 := h1
  simp only [polOk, wi, Bool.and_eq_true, decide_eq_true_eq] at hp100
  have q0 := atF_in m 0
  have q1 := atF_in m 1
  have q2 := atF_in m 2
  have q3 := atF_in m 3
  have c0 := lwAt_c m (by omega) 0 (by omega)
  have c1 := lwAt_c m (by omega) 1 (by omega)
  have c2 := lwAt_c m (by omega) 2 (by omega)
  have c3 := lwAt_c m (by omega) 3 (by omega)
  generalize atF m 0 3 = d0 at q0 c0
  generalize atF m 1 3 = d1 at q1 c1
  generalize atF m 2 3 = d2 at q2 c2
  generalize atF m 3 3 = d3 at q3 c3
  obtain ⟨q, hq⟩ : ∃ q : DPolicy, q = ⟨p.last + d0, p.days + d1, p.weeks + d2, p.months + d3⟩ := ⟨_, rfl⟩
  have hqe : q.enc = [.lit (.int .i64 (p.last + d0)), .lit (.int .i64 (p.days + d1)), .lit (.int .i64 (p.weeks + d2)), .lit (.int .i64 (p.months + d3))] := by rw [hq]; rfl
  have cm := keepSpec_c q s (by omega) hsok
  obtain ⟨mm, hmm⟩ : ∃ mm, keepR q s = mm := ⟨_, rfl⟩
  rw [hmm] at cm
  have cq := polSpec_c q
  rw [hqe] at cm
  have hpart := chooseN_part h1 h2
  rw [hk, hf] at hpart
  have hkle := chooseN_le h1 h2
  rw [hk] at hkle
  have hmany := keptN_many h1 (newest s)
  have hmml : mm.length ≤ 404 := by
    rw [← hmm]; unfold keepR
    split
    · have := keptN_len q (newest s)
      rw [newest_length] at this; omega
    · simp
  have hkm : ∀ x ∈ s, (decide (x.name ∈ k) == decide (x.name ∈ f)) = false := fun x hx => by
    have e1 := chooseN_mem h1 h2 true hx
    have e2 := chooseN_mem h1 h2 false hx
    rw [hk] at e1
    rw [hf] at e2
    by_cases hy : x.name ∈ keptN p (newest s)
    · rw [decide_eq_true hy] at e1 e2
      rw [decide_eq_true (e1.2 rfl), decide_eq_false (fun h => by have := e2.1 h; cases this)]; rfl
    · rw [decide_eq_false hy] at e1 e2
      rw [decide_eq_true (e2.2 rfl), decide_eq_false (fun h => by have := e1.1 h; cases this)]; rfl
  have hkmm : polOk q = true → ∀ x ∈ s, x.name ∈ k → x.name ∈ mm := fun hpq x hx hy => by
    rw [← hmm]; unfold keepR
    rw [if_pos ⟨hpq, h2⟩]
    have e1 := chooseN_mem h1 h2 true hx
    rw [hk] at e1
    have := of_decide_eq_true (e1.1 hy)
    exact keptN_mono (by rw [hq]; show p.last ≤ p.last + d0; omega) (by rw [hq]; show p.days ≤ p.days + d1; omega) (by rw [hq]; show p.weeks ≤ p.weeks + d2; omega) (by rw [hq]; show p.months ≤ p.months + d3; omega) this
  have hnew : ∀ j (h : j < s.length), NewI s s.length j → p ≠ ⟨0, 0, 0, 0⟩ → s[j].name ∈ k := fun j h hj hz => by
    obtain ⟨hh, e⟩ := newI_head h2 hj
    have e1 := chooseN_mem h1 h2 true (List.getElem_mem h)
    rw [hk] at e1
    refine e1.2 (decide_eq_true ?_)
    rw [e]; exact keptN_head h1 hz hh
  refine law_row2 (E := tb) tb_ok mix (fn := Try.f13) Try.func13 rfl (by kernel_rfl) (by kernel_rfl) (by simp [Try.f13]) rfl fun A cap A2 cap2 => ?_
  simp only [List.length_map]
  have hsum : p.last + p.days + p.weeks + p.months ≥ (k.length : Int) := by omega
  (conv => whnf)
  (split <;> rename_i hl <;> (try simp only [decide_eq_true_eq, decide_eq_false_iff_not, Bool.not_eq_true', Bool.not_eq_false', Bool.not_eq_true, Bool.not_eq_false, List.length_map] at hl) <;> conv => whnf)
  · omega
  (split <;> rename_i hm <;> (try simp only [decide_eq_true_eq, decide_eq_false_iff_not, Bool.not_eq_true', Bool.not_eq_false', Bool.not_eq_true, Bool.not_eq_false, List.length_map] at hm) <;> conv => whnf)
  · omega
  refine ⟨_, _, cdraw, lends_cons (lend_one (la_par 0 rfl)) lends_nil, ?_⟩; (conv => whnf)
  refine ⟨_, _, ck, (by repeat' (first | exact lends_nil | exact lend_dead | apply lends_cons | apply lend_agg | apply lend_one | exact all2_nil | apply all2_cons | exact la_lit rfl | exact la_int (by first | rfl | omega) | exact la_row rfl rfl | exact la_loc rfl rfl rfl (by first | rfl | simp [mkL_length]) (by first | rfl | simp) | exact la_nil rfl | apply la_fn rfl | exact lend_same rfl rfl | exact lend_bor rfl rfl)), ?_⟩; (conv => whnf)
  refine ⟨_, _, cf, (by repeat' (first | exact lends_nil | exact lend_dead | apply lends_cons | apply lend_agg | apply lend_one | exact all2_nil | apply all2_cons | exact la_lit rfl | exact la_int (by first | rfl | omega) | exact la_row rfl rfl | exact la_loc rfl rfl rfl (by first | rfl | simp [mkL_length]) (by first | rfl | simp) | exact la_nil rfl | apply la_fn rfl | exact lend_same rfl rfl | exact lend_bor rfl rfl)), ?_⟩; (conv => whnf)
  refine ⟨_, _, cp, (by repeat' (first | exact lends_nil | exact lend_dead | apply lends_cons | apply lend_agg | apply lend_one | exact all2_nil | apply all2_cons | exact la_lit rfl | exact la_int (by first | rfl | omega) | exact la_row rfl rfl | exact la_loc rfl rfl rfl (by first | rfl | simp [mkL_length]) (by first | rfl | simp) | exact la_nil rfl | apply la_fn rfl | exact lend_same rfl rfl | exact lend_bor rfl rfl)), ?_⟩; (conv => whnf)
  refine ⟨_, _, cs, (by repeat' (first | exact lends_nil | exact lend_dead | apply lends_cons | apply lend_agg | apply lend_one | exact all2_nil | apply all2_cons | exact la_lit rfl | exact la_int (by first | rfl | omega) | exact la_row rfl rfl | exact la_loc rfl rfl rfl (by first | rfl | simp [mkL_length]) (by first | rfl | simp) | exact la_nil rfl | apply la_fn rfl | exact lend_same rfl rfl | exact lend_bor rfl rfl)), ?_⟩; (conv => whnf)
  refine ⟨_, _, c0, lends_cons (lend_one (la_par 1 rfl)) (lends_cons (lend_one (la_int rfl)) (lends_cons (lend_one (la_int rfl)) lends_nil)), ?_⟩; (conv => whnf)
  refine ⟨p.last + d0, by rw [← wrap64_id] <;> omega, ?_⟩; (conv => whnf)
  refine ⟨_, _, c1, lends_cons (lend_one (la_par 1 rfl)) (lends_cons (lend_one (la_int rfl)) (lends_cons (lend_one (la_int rfl)) lends_nil)), ?_⟩; (conv => whnf)
  refine ⟨p.days + d1, by rw [← wrap64_id] <;> omega, ?_⟩; (conv => whnf)
  refine ⟨_, _, c2, lends_cons (lend_one (la_par 1 rfl)) (lends_cons (lend_one (la_int rfl)) (lends_cons (lend_one (la_int rfl)) lends_nil)), ?_⟩; (conv => whnf)
  refine ⟨p.weeks + d2, by rw [← wrap64_id] <;> omega, ?_⟩; (conv => whnf)
  refine ⟨_, _, c3, lends_cons (lend_one (la_par 1 rfl)) (lends_cons (lend_one (la_int rfl)) (lends_cons (lend_one (la_int rfl)) lends_nil)), ?_⟩; (conv => whnf)
  refine ⟨p.months + d3, by rw [← wrap64_id] <;> omega, ?_⟩; (conv => whnf)
  refine ⟨_, _, cm, (by repeat' (first | exact lends_nil | exact lend_dead | apply lends_cons | apply lend_agg | apply lend_one | exact all2_nil | apply all2_cons | exact la_lit rfl | exact la_int (by first | rfl | omega) | exact la_row rfl rfl | exact la_loc rfl rfl rfl (by first | rfl | simp [mkL_length]) (by first | rfl | simp) | exact la_nil rfl | apply la_fn rfl | exact lend_same rfl rfl | exact lend_bor rfl rfl)), ?_⟩; (conv => whnf)
  refine ⟨((k.length + f.length : Nat) : Int), by rw [List.length_map, List.length_map, ← wrap64_id] <;> omega, ?_⟩; (conv => whnf)
  (split <;> rename_i h3 <;> (try simp only [decide_eq_true_eq, decide_eq_false_iff_not, Bool.not_eq_true', Bool.not_eq_false', Bool.not_eq_true, Bool.not_eq_false, List.length_map] at h3) <;> conv => whnf)
  · exfalso; apply h3; rw [hpart]
  refine ⟨p.last + p.days, by rw [← wrap64_id] <;> omega, ?_⟩; (conv => whnf)
  refine ⟨p.last + p.days + p.weeks, by rw [← wrap64_id] <;> omega, ?_⟩; (conv => whnf)
  refine ⟨p.last + p.days + p.weeks + p.months, by rw [← wrap64_id] <;> omega, ?_⟩; (conv => whnf)
  (split <;> rename_i h4 <;> (try simp only [decide_eq_true_eq, decide_eq_false_iff_not, Bool.not_eq_true', Bool.not_eq_false', Bool.not_eq_true, Bool.not_eq_false, List.length_map] at h4) <;> conv => whnf)
  · exfalso; omega
  refine ⟨LG (fun a : Nat × Int => a.1 ≤ s.length ∧ ((a.1 = 0 ∧ a.2 = -1) ∨ ∃ j : Nat, a.2 = (j : Int) ∧ NewI s a.1 j)) (fun a => s.length - a.1)
      (fun a => AS.of [(4, .one (.lit (.bool false))), (5, .one (.ptr 80 0)), (6, .one (.loc 388 0 s.length)), (7, .one (.loc 464 0 k.length)), (8, .one (.loc 512 0 f.length)), (9, .one (.ptr 144 0)), (10, .one (.loc 1120 0 mm.length)), (11, .one (.lit (.int .i64 a.2))), (12, .one (.lit (.int .i64 (a.1 : Nat))))]
        [(80, .var p.enc), (388, .row true 3 (s.map DSnap.enc)), (464, .row true 1 (k.map eStr)), (512, .row true 1 (f.map eStr)), (144, .var q.enc), (1120, .row true 1 (mm.map eStr))]),
    lg_init (0, -1) ⟨Nat.zero_le _, .inl ⟨rfl, rfl⟩⟩ (weak_of (by repeat (first | refine all_cons (by first | rfl | exact eq_int rfl (by first | rfl | omega | (simp; done) | (simp; omega)) | exact eq_loc rfl (by first | rfl | omega | (simp; done) | (simp; omega)) | exact eq_bool rfl (by simp_all)) ?_ | exact all_nil)) (all_cons rfl (all_cons rfl (all_cons rfl (all_cons rfl (all_cons (eq_var rfl (by rw [hqe]; rfl)) (all_cons rfl all_nil)))))) rfl rfl), ?_⟩
  rintro σ k0 ⟨⟨i, nw⟩, ⟨hi, hn⟩, rfl, rfl⟩
  simp only at hi hn ⊢
  by_cases hlt : i < s.length
  · have hsm : s[i] ∈ s := List.getElem_mem hlt
    have ct1 := lwText_c k (by omega) s[i].name
    have ct2 := lwText_c f (by omega) s[i].name
    have ct3 := lwText_c mm (by omega) s[i].name
    have hkf := hkm _ hsm
    by_cases hin : s[i].name ∈ k
    · rw [decide_eq_true hin] at ct1 hkf
      have hf1 : decide (s[i].name ∈ f) = false := by cases hc : decide (s[i].name ∈ f) <;> rw [hc] at hkf <;> first | rfl | cases hkf
      rw [hf1] at ct2
      by_cases hpq : polOk q = true
      · rw [hpq] at cq
        rw [decide_eq_true (hkmm hpq _ hsm hin)] at ct3
        refine ⟨_, Weak.refl _, ?_⟩
        (conv => whnf)
        (split <;> rename_i h5 <;> (try simp only [decide_eq_true_eq, decide_eq_false_iff_not, Bool.not_eq_true', Bool.not_eq_false', Bool.not_eq_true, Bool.not_eq_false, List.length_map] at h5) <;> conv => whnf)
        · skip
          refine ⟨i, rfl, by omega, ?_⟩; (conv => whnf)
          refine ⟨_, at_map0 hlt, ?_⟩; (conv => whnf)
          refine ⟨_, _, ct1, (by repeat' (first | exact lends_nil | exact lend_dead | apply lends_cons | apply lend_agg | apply lend_one | exact all2_nil | apply all2_cons | exact la_lit rfl | exact la_int (by first | rfl | omega) | exact la_row rfl rfl | exact la_loc rfl rfl rfl (by first | rfl | simp [mkL_length]) (by first | rfl | simp) | exact la_nil rfl | apply la_fn rfl | exact lend_same rfl rfl | exact lend_bor rfl rfl)), ?_⟩; (conv => whnf)
          refine ⟨i, rfl, by omega, ?_⟩; (conv => whnf)
          refine ⟨_, at_map0 hlt, ?_⟩; (conv => whnf)
          refine ⟨_, _, ct2, (by repeat' (first | exact lends_nil | exact lend_dead | apply lends_cons | apply lend_agg | apply lend_one | exact all2_nil | apply all2_cons | exact la_lit rfl | exact la_int (by first | rfl | omega) | exact la_row rfl rfl | exact la_loc rfl rfl rfl (by first | rfl | simp [mkL_length]) (by first | rfl | simp) | exact la_nil rfl | apply la_fn rfl | exact lend_same rfl rfl | exact lend_bor rfl rfl)), ?_⟩; (conv => whnf)
          refine ⟨_, _, cq, (by repeat' (first | exact lends_nil | exact lend_dead | apply lends_cons | apply lend_agg | apply lend_one | exact all2_nil | apply all2_cons | exact la_lit rfl | exact la_int (by first | rfl | omega) | exact la_row rfl rfl | exact la_loc rfl rfl rfl (by first | rfl | simp [mkL_length]) (by first | rfl | simp) | exact la_nil rfl | apply la_fn rfl | exact lend_same rfl rfl | exact lend_bor rfl rfl)), ?_⟩; (conv => whnf)
          refine ⟨i, rfl, by omega, ?_⟩; (conv => whnf)
          refine ⟨_, at_map0 hlt, ?_⟩; (conv => whnf)
          refine ⟨_, _, ct3, (by repeat' (first | exact lends_nil | exact lend_dead | apply lends_cons | apply lend_agg | apply lend_one | exact all2_nil | apply all2_cons | exact la_lit rfl | exact la_int (by first | rfl | omega) | exact la_row rfl rfl | exact la_loc rfl rfl rfl (by first | rfl | simp [mkL_length]) (by first | rfl | simp) | exact la_nil rfl | apply la_fn rfl | exact lend_same rfl rfl | exact lend_bor rfl rfl)), ?_⟩; (conv => whnf)
          rcases hn with ⟨hi0, hv⟩ | ⟨j, hv, hnj⟩
          · subst hv
            (refine ⟨((i + 1 : Nat) : Int), by rw [← wrap64_id] <;> omega, ?_⟩; conv => whnf)
            exact lg_back ((i + 1, (i : Int)) : Nat × Int) ⟨hlt, .inr ⟨i, rfl, newI_step (j := 0) hlt (.inl hi0) (.inl hi0)⟩⟩ (by (try dsimp only); omega) (weak_of (all_cons rfl (all_cons rfl (all_cons rfl (all_cons rfl (all_cons rfl (all_cons rfl (all_cons rfl (all_cons rfl (all_cons rfl all_nil))))))))) (all_cons rfl (all_cons rfl (all_cons rfl (all_cons rfl (all_cons rfl (all_cons rfl all_nil)))))) rfl rfl)
          · subst hv
            have hjl := hnj.1
            (split <;> rename_i h6 <;> (try simp only [decide_eq_true_eq, decide_eq_false_iff_not, Bool.not_eq_true', Bool.not_eq_false', Bool.not_eq_true, Bool.not_eq_false, List.length_map] at h6) <;> conv => whnf)
            · omega
            refine ⟨i, rfl, by omega, ?_⟩; (conv => whnf)
            refine ⟨_, at_map0 hlt, ?_⟩; (conv => whnf)
            refine ⟨j, rfl, by omega, ?_⟩; (conv => whnf)
            refine ⟨_, at_map0 hjl, ?_⟩; (conv => whnf)
            (split <;> rename_i h7 <;> (try simp only [decide_eq_true_eq, decide_eq_false_iff_not, Bool.not_eq_true', Bool.not_eq_false', Bool.not_eq_true, Bool.not_eq_false, List.length_map] at h7) <;> conv => whnf)
            · (refine ⟨((i + 1 : Nat) : Int), by rw [← wrap64_id] <;> omega, ?_⟩; conv => whnf)
              exact lg_back ((i + 1, (i : Int)) : Nat × Int) ⟨hlt, .inr ⟨i, rfl, newI_step hlt (.inr hnj) (.inr ⟨hjl, h7⟩)⟩⟩ (by (try dsimp only); omega) (weak_of (all_cons rfl (all_cons rfl (all_cons rfl (all_cons rfl (all_cons rfl (all_cons rfl (all_cons rfl (all_cons rfl (all_cons rfl all_nil))))))))) (all_cons rfl (all_cons rfl (all_cons rfl (all_cons rfl (all_cons rfl (all_cons rfl all_nil)))))) rfl rfl)
            · (refine ⟨((i + 1 : Nat) : Int), by rw [← wrap64_id] <;> omega, ?_⟩; conv => whnf)
              exact lg_back ((i + 1, (j : Int)) : Nat × Int) ⟨hlt, .inr ⟨j, rfl, newI_stay hlt hnj (fun _ => by omega)⟩⟩ (by (try dsimp only); omega) (weak_of (all_cons rfl (all_cons rfl (all_cons rfl (all_cons rfl (all_cons rfl (all_cons rfl (all_cons rfl (all_cons rfl (all_cons rfl all_nil))))))))) (all_cons rfl (all_cons rfl (all_cons rfl (all_cons rfl (all_cons rfl (all_cons rfl all_nil)))))) rfl rfl)
        · omega
      · rw [Bool.not_eq_true] at hpq
        rw [hpq] at cq
        refine ⟨_, Weak.refl _, ?_⟩
        (conv => whnf)
        (split <;> rename_i h5 <;> (try simp only [decide_eq_true_eq, decide_eq_false_iff_not, Bool.not_eq_true', Bool.not_eq_false', Bool.not_eq_true, Bool.not_eq_false, List.length_map] at h5) <;> conv => whnf)
        · skip
          refine ⟨i, rfl, by omega, ?_⟩; (conv => whnf)
          refine ⟨_, at_map0 hlt, ?_⟩; (conv => whnf)
          refine ⟨_, _, ct1, (by repeat' (first | exact lends_nil | exact lend_dead | apply lends_cons | apply lend_agg | apply lend_one | exact all2_nil | apply all2_cons | exact la_lit rfl | exact la_int (by first | rfl | omega) | exact la_row rfl rfl | exact la_loc rfl rfl rfl (by first | rfl | simp [mkL_length]) (by first | rfl | simp) | exact la_nil rfl | apply la_fn rfl | exact lend_same rfl rfl | exact lend_bor rfl rfl)), ?_⟩; (conv => whnf)
          refine ⟨i, rfl, by omega, ?_⟩; (conv => whnf)
          refine ⟨_, at_map0 hlt, ?_⟩; (conv => whnf)
          refine ⟨_, _, ct2, (by repeat' (first | exact lends_nil | exact lend_dead | apply lends_cons | apply lend_agg | apply lend_one | exact all2_nil | apply all2_cons | exact la_lit rfl | exact la_int (by first | rfl | omega) | exact la_row rfl rfl | exact la_loc rfl rfl rfl (by first | rfl | simp [mkL_length]) (by first | rfl | simp) | exact la_nil rfl | apply la_fn rfl | exact lend_same rfl rfl | exact lend_bor rfl rfl)), ?_⟩; (conv => whnf)
          refine ⟨_, _, cq, (by repeat' (first | exact lends_nil | exact lend_dead | apply lends_cons | apply lend_agg | apply lend_one | exact all2_nil | apply all2_cons | exact la_lit rfl | exact la_int (by first | rfl | omega) | exact la_row rfl rfl | exact la_loc rfl rfl rfl (by first | rfl | simp [mkL_length]) (by first | rfl | simp) | exact la_nil rfl | apply la_fn rfl | exact lend_same rfl rfl | exact lend_bor rfl rfl)), ?_⟩; (conv => whnf)
          rcases hn with ⟨hi0, hv⟩ | ⟨j, hv, hnj⟩
          · subst hv
            (refine ⟨((i + 1 : Nat) : Int), by rw [← wrap64_id] <;> omega, ?_⟩; conv => whnf)
            exact lg_back ((i + 1, (i : Int)) : Nat × Int) ⟨hlt, .inr ⟨i, rfl, newI_step (j := 0) hlt (.inl hi0) (.inl hi0)⟩⟩ (by (try dsimp only); omega) (weak_of (all_cons rfl (all_cons rfl (all_cons rfl (all_cons rfl (all_cons rfl (all_cons rfl (all_cons rfl (all_cons rfl (all_cons rfl all_nil))))))))) (all_cons rfl (all_cons rfl (all_cons rfl (all_cons rfl (all_cons rfl (all_cons rfl all_nil)))))) rfl rfl)
          · subst hv
            have hjl := hnj.1
            (split <;> rename_i h6 <;> (try simp only [decide_eq_true_eq, decide_eq_false_iff_not, Bool.not_eq_true', Bool.not_eq_false', Bool.not_eq_true, Bool.not_eq_false, List.length_map] at h6) <;> conv => whnf)
            · omega
            refine ⟨i, rfl, by omega, ?_⟩; (conv => whnf)
            refine ⟨_, at_map0 hlt, ?_⟩; (conv => whnf)
            refine ⟨j, rfl, by omega, ?_⟩; (conv => whnf)
            refine ⟨_, at_map0 hjl, ?_⟩; (conv => whnf)
            (split <;> rename_i h7 <;> (try simp only [decide_eq_true_eq, decide_eq_false_iff_not, Bool.not_eq_true', Bool.not_eq_false', Bool.not_eq_true, Bool.not_eq_false, List.length_map] at h7) <;> conv => whnf)
            · (refine ⟨((i + 1 : Nat) : Int), by rw [← wrap64_id] <;> omega, ?_⟩; conv => whnf)
              exact lg_back ((i + 1, (i : Int)) : Nat × Int) ⟨hlt, .inr ⟨i, rfl, newI_step hlt (.inr hnj) (.inr ⟨hjl, h7⟩)⟩⟩ (by (try dsimp only); omega) (weak_of (all_cons rfl (all_cons rfl (all_cons rfl (all_cons rfl (all_cons rfl (all_cons rfl (all_cons rfl (all_cons rfl (all_cons rfl all_nil))))))))) (all_cons rfl (all_cons rfl (all_cons rfl (all_cons rfl (all_cons rfl (all_cons rfl all_nil)))))) rfl rfl)
            · (refine ⟨((i + 1 : Nat) : Int), by rw [← wrap64_id] <;> omega, ?_⟩; conv => whnf)
              exact lg_back ((i + 1, (j : Int)) : Nat × Int) ⟨hlt, .inr ⟨j, rfl, newI_stay hlt hnj (fun _ => by omega)⟩⟩ (by (try dsimp only); omega) (weak_of (all_cons rfl (all_cons rfl (all_cons rfl (all_cons rfl (all_cons rfl (all_cons rfl (all_cons rfl (all_cons rfl (all_cons rfl all_nil))))))))) (all_cons rfl (all_cons rfl (all_cons rfl (all_cons rfl (all_cons rfl (all_cons rfl all_nil)))))) rfl rfl)
        · omega
    · rw [decide_eq_false hin] at ct1 hkf
      have hf1 : decide (s[i].name ∈ f) = true := by cases hc : decide (s[i].name ∈ f) <;> rw [hc] at hkf <;> first | rfl | cases hkf
      rw [hf1] at ct2
      refine ⟨_, Weak.refl _, ?_⟩
      (conv => whnf)
      (split <;> rename_i h5 <;> (try simp only [decide_eq_true_eq, decide_eq_false_iff_not, Bool.not_eq_true', Bool.not_eq_false', Bool.not_eq_true, Bool.not_eq_false, List.length_map] at h5) <;> conv => whnf)
      · skip
        refine ⟨i, rfl, by omega, ?_⟩; (conv => whnf)
        refine ⟨_, at_map0 hlt, ?_⟩; (conv => whnf)
        refine ⟨_, _, ct1, (by repeat' (first | exact lends_nil | exact lend_dead | apply lends_cons | apply lend_agg | apply lend_one | exact all2_nil | apply all2_cons | exact la_lit rfl | exact la_int (by first | rfl | omega) | exact la_row rfl rfl | exact la_loc rfl rfl rfl (by first | rfl | simp [mkL_length]) (by first | rfl | simp) | exact la_nil rfl | apply la_fn rfl | exact lend_same rfl rfl | exact lend_bor rfl rfl)), ?_⟩; (conv => whnf)
        refine ⟨i, rfl, by omega, ?_⟩; (conv => whnf)
        refine ⟨_, at_map0 hlt, ?_⟩; (conv => whnf)
        refine ⟨_, _, ct2, (by repeat' (first | exact lends_nil | exact lend_dead | apply lends_cons | apply lend_agg | apply lend_one | exact all2_nil | apply all2_cons | exact la_lit rfl | exact la_int (by first | rfl | omega) | exact la_row rfl rfl | exact la_loc rfl rfl rfl (by first | rfl | simp [mkL_length]) (by first | rfl | simp) | exact la_nil rfl | apply la_fn rfl | exact lend_same rfl rfl | exact lend_bor rfl rfl)), ?_⟩; (conv => whnf)
        rcases hn with ⟨hi0, hv⟩ | ⟨j, hv, hnj⟩
        · subst hv
          (refine ⟨((i + 1 : Nat) : Int), by rw [← wrap64_id] <;> omega, ?_⟩; conv => whnf)
          exact lg_back ((i + 1, (i : Int)) : Nat × Int) ⟨hlt, .inr ⟨i, rfl, newI_step (j := 0) hlt (.inl hi0) (.inl hi0)⟩⟩ (by (try dsimp only); omega) (weak_of (all_cons rfl (all_cons rfl (all_cons rfl (all_cons rfl (all_cons rfl (all_cons rfl (all_cons rfl (all_cons rfl (all_cons rfl all_nil))))))))) (all_cons rfl (all_cons rfl (all_cons rfl (all_cons rfl (all_cons rfl (all_cons rfl all_nil)))))) rfl rfl)
        · subst hv
          have hjl := hnj.1
          (split <;> rename_i h6 <;> (try simp only [decide_eq_true_eq, decide_eq_false_iff_not, Bool.not_eq_true', Bool.not_eq_false', Bool.not_eq_true, Bool.not_eq_false, List.length_map] at h6) <;> conv => whnf)
          · omega
          refine ⟨i, rfl, by omega, ?_⟩; (conv => whnf)
          refine ⟨_, at_map0 hlt, ?_⟩; (conv => whnf)
          refine ⟨j, rfl, by omega, ?_⟩; (conv => whnf)
          refine ⟨_, at_map0 hjl, ?_⟩; (conv => whnf)
          (split <;> rename_i h7 <;> (try simp only [decide_eq_true_eq, decide_eq_false_iff_not, Bool.not_eq_true', Bool.not_eq_false', Bool.not_eq_true, Bool.not_eq_false, List.length_map] at h7) <;> conv => whnf)
          · (refine ⟨((i + 1 : Nat) : Int), by rw [← wrap64_id] <;> omega, ?_⟩; conv => whnf)
            exact lg_back ((i + 1, (i : Int)) : Nat × Int) ⟨hlt, .inr ⟨i, rfl, newI_step hlt (.inr hnj) (.inr ⟨hjl, h7⟩)⟩⟩ (by (try dsimp only); omega) (weak_of (all_cons rfl (all_cons rfl (all_cons rfl (all_cons rfl (all_cons rfl (all_cons rfl (all_cons rfl (all_cons rfl (all_cons rfl all_nil))))))))) (all_cons rfl (all_cons rfl (all_cons rfl (all_cons rfl (all_cons rfl (all_cons rfl all_nil)))))) rfl rfl)
          · (refine ⟨((i + 1 : Nat) : Int), by rw [← wrap64_id] <;> omega, ?_⟩; conv => whnf)
            exact lg_back ((i + 1, (j : Int)) : Nat × Int) ⟨hlt, .inr ⟨j, rfl, newI_stay hlt hnj (fun _ => by omega)⟩⟩ (by (try dsimp only); omega) (weak_of (all_cons rfl (all_cons rfl (all_cons rfl (all_cons rfl (all_cons rfl (all_cons rfl (all_cons rfl (all_cons rfl (all_cons rfl all_nil))))))))) (all_cons rfl (all_cons rfl (all_cons rfl (all_cons rfl (all_cons rfl (all_cons rfl all_nil)))))) rfl rfl)
      · omega
  · have hie : i = s.length := by omega
    subst hie
    refine ⟨_, Weak.refl _, ?_⟩
    (conv => whnf)
    (split <;> rename_i h5 <;> (try simp only [decide_eq_true_eq, decide_eq_false_iff_not, Bool.not_eq_true', Bool.not_eq_false', Bool.not_eq_true, Bool.not_eq_false, List.length_map] at h5) <;> conv => whnf)
    · omega
    rcases hn with ⟨hi0, hv⟩ | ⟨j, hv, hnj⟩
    · subst hv
      exact ⟨close_bool rfl, trivial⟩
    · subst hv
      have hjl := hnj.1
      (split <;> rename_i h6 <;> (try simp only [decide_eq_true_eq, decide_eq_false_iff_not, Bool.not_eq_true', Bool.not_eq_false', Bool.not_eq_true, Bool.not_eq_false, List.length_map] at h6) <;> conv => whnf)
      · omega
      have hpz : (decide (p.last = 0) && (decide (p.days = 0) && (decide (p.weeks = 0) && decide (p.months = 0)))) = true ↔ p = ⟨0, 0, 0, 0⟩ := by
        obtain ⟨a, b, c, d⟩ := p
        simp
      have heq : ∀ w : World, (binOp .eql 103 (.agg [Value.int .i64 p.last, .int .i64 p.days, .int .i64 p.weeks, .int .i64 p.months].toArray) (.agg [Value.int .i64 0, .int .i64 0, .int .i64 0, .int .i64 0].toArray)).run Try.prog w = .ok (.bool (decide (p.last = 0) && (decide (p.days = 0) && (decide (p.weeks = 0) && decide (p.months = 0))))) w := fun w => eq_pol _ _ _ _ w
      generalize (decide (p.last = 0) && (decide (p.days = 0) && (decide (p.weeks = 0) && decide (p.months = 0)))) = zb at hpz heq
      by_cases hz : zb = true
      · subst hz
        refine ⟨[Value.int .i64 p.last, .int .i64 p.days, .int .i64 p.weeks, .int .i64 p.months], [Value.int .i64 0, .int .i64 0, .int .i64 0, .int .i64 0], true, rfl, rfl, guard_pol, heq, ?_⟩; (conv => whnf)
        exact ⟨close_bool rfl, trivial⟩
      · have hz' : p ≠ ⟨0, 0, 0, 0⟩ := fun e => hz (hpz.2 e)
        rw [Bool.not_eq_true] at hz
        subst hz
        have ct := lwText_c k (by omega) s[j].name
        rw [decide_eq_true (hnew j hjl hnj hz')] at ct
        refine ⟨[Value.int .i64 p.last, .int .i64 p.days, .int .i64 p.weeks, .int .i64 p.months], [Value.int .i64 0, .int .i64 0, .int .i64 0, .int .i64 0], false, rfl, rfl, guard_pol, heq, ?_⟩; (conv => whnf)
        refine ⟨j, rfl, by omega, ?_⟩; (conv => whnf)
        refine ⟨_, at_map0 hjl, ?_⟩; (conv => whnf)
        refine ⟨_, _, ct, (by repeat' (first | exact lends_nil | exact lend_dead | apply lends_cons | apply lend_agg | apply lend_one | exact all2_nil | apply all2_cons | exact la_lit rfl | exact la_int (by first | rfl | omega) | exact la_row rfl rfl | exact la_loc rfl rfl rfl (by first | rfl | simp [mkL_length]) (by first | rfl | simp) | exact la_nil rfl | apply la_fn rfl | exact lend_same rfl rfl | exact lend_bor rfl rfl)), ?_⟩; (conv => whnf)
        exact ⟨close_bool rfl, trivial⟩
end Go.Proofs.Ytlijeincckbdaaa
