/- Texts of the proof: an abstract machine for Go functions, contracts of the program's functions, and the row. -/
import Derived.Test.YthdejoipdgahiaaGreatDoorCL2
import Derived.Test.YthdejoipdgahiaaGreatDoorCL3
namespace Go.Proofs.YthdejoipdgahiaaGreatDoor
open Go.RowKit
set_option linter.unusedSimpArgs false
set_option linter.unusedVariables false
set_option maxRecDepth 100000
set_option maxHeartbeats 8000000
theorem l05Turn_c (x : UInt32) (k : Nat) (h0 : 0 < k) (h1 : k < 32) : Fun1 Tryz.prog 176 [.one (.lit (.int .u32 x.toNat)), .one (.lit (.int .u64 (k : Int)))] (.one (.lit (.int .u32 (turnW x k).toNat))) := by
  refine fun1_of_vc tb_ok mix (fn := Tryz.f176) Tryz.func176 rfl (by kernel_rfl) (by kernel_rfl) (by simp [Tryz.f176]) (by rfl) ?_
  (conv => whnf)
  refine ⟨by omega, ((x >>> UInt32.ofNat k).toNat : Int), by rw [← u32_shr x k h1]; congr 2; show k = min ((k : Int).toNat) 32; omega, ?_⟩; (conv => whnf)
  refine ⟨((32 - k : Nat) : Int), by rw [IntKind.wrap_u64]; omega, ?_⟩; (conv => whnf)
  refine ⟨by omega, ((x <<< UInt32.ofNat (32 - k)).toNat : Int), by rw [← u32_shl x (32 - k) (by omega)]; congr 3; show 32 - k = min (((32 - k : Nat) : Int).toNat) 32; omega, ?_⟩; (conv => whnf)
  exact ⟨close_int (u32_or _ _).symm, trivial⟩
def eW (x : UInt32) : List AV := [.lit (.int .u32 (x.toNat : Int))]
def eN (x : UInt32) : List AV := eInt (x.toNat : Int)
theorem l05Start_c : Fun1 Tryz.prog 149 [] (.one (.row true 1 (startL.map eN))) := by
  refine fun1_of_vc tb_ok mix (fn := Tryz.f149) Tryz.func149 rfl (by kernel_rfl) (by kernel_rfl) (by simp [Tryz.f149]) (by rfl) ?_
  (conv => whnf)
  exact ⟨close_row rfl rfl rfl rfl, trivial⟩
theorem l05Keys_c : Fun1 Tryz.prog 177 [] (.one (.row true 1 (keysL.map eW))) := by
  refine fun1_of_vc tb_ok mix (fn := Tryz.f177) Tryz.func177 rfl (by kernel_rfl) (by kernel_rfl) (by simp [Tryz.f177]) (by rfl) ?_
  (conv => whnf)
  exact ⟨close_row rfl rfl rfl rfl, trivial⟩
theorem hashBegin_c : Fun1 Tryz.prog 120 [] (.agg (DHash.enc ⟨startL, .empty, 0⟩)) := by
  refine fun1_of_vc tb_ok mix (fn := Tryz.f120) Tryz.func120 rfl (by kernel_rfl) (by kernel_rfl) (by simp [Tryz.f120]) (by rfl) ?_
  (conv => whnf)
  refine ⟨_, _, l05Start_c, lendA, ?_⟩; (conv => whnf)
  exact ⟨close_row rfl rfl rfl rfl, close_str rfl, close_int rfl, trivial⟩
theorem u32_not' (x : UInt32) : bits .xor .u32 (if IntKind.u32.signed = true then -1 else IntKind.u32.max) (x.toNat : Int) = ((~~~x).toNat : Int) := u32_not x
def wRow (w : List UInt32) : List UInt32 := w ++ List.replicate (64 - w.length) 0
theorem wRow_len {w : List UInt32} (h : w.length ≤ 64) : (wRow w).length = 64 := by simp [wRow]; omega
theorem wRow_set {w : List UInt32} (h : w.length < 64) (v : UInt32) : (wRow w).set w.length v = wRow (w ++ [v]) := by
  unfold wRow
  have e : 64 - w.length = (64 - (w ++ [v]).length) + 1 := by simp; omega
  rw [e, List.replicate_succ, List.append_assoc, List.set_append_right _ _ (by omega), Nat.sub_self]; rfl
theorem wRow_get {w : List UInt32} {j : Nat} (h : j < w.length) : (wRow w)[j]? = some (w.getD j 0) := by
  unfold wRow
  rw [List.getElem?_append_left h, List.getElem?_eq_getElem h, List.getD_eq_getElem?_getD, List.getElem?_eq_getElem h]; rfl
theorem wRow_at {w : List UInt32} {j : Nat} (h : j < w.length) : ((wRow w).map eW)[0 + j]? = some (eW (w.getD j 0)) := by
  rw [Nat.zero_add, List.getElem?_map, wRow_get h]; rfl
theorem wRow_in {w : List UInt32} {j : Nat} (h0 : w.length ≤ 64) (h : j < 64) : ∃ x, ((wRow w).map eW)[0 + j]? = some (eW x) := by
  rw [Nat.zero_add, List.getElem?_map, List.getElem?_eq_getElem (by rw [wRow_len h0]; exact h)]; exact ⟨_, rfl⟩
theorem wRow_store {w : List UInt32} (h : w.length < 64) {v : UInt32} {r : Int} (hr : r = (v.toNat : Int)) : (wRow (w ++ [v])).map eW = ((wRow w).map eW).set (0 + w.length) [.lit (.int .u32 r)] := by
  subst hr
  rw [Nat.zero_add, ← wRow_set h, List.map_set]; rfl
theorem l05Block_c (st : List UInt32) (hs : st.length = 8) (b : ByteArray) (hb : b.size = 64) : Fun1 Tryz.prog 148 [.one (.row true 1 (st.map eN)), .one (.lit (.string b))] (.one (.row true 1 ((block st b).map eN))) := by
  refine fun1_of_vc tb_ok mix (fn := Tryz.f148) Tryz.func148 rfl (by kernel_rfl) (by kernel_rfl) (by simp [Tryz.f148]) (by show AV.nb (4 + 1) _ = true; exact nb_map (n := 4) (fun y => rfl) _) ?_
  (conv => whnf)
  refine ⟨64, rfl, by decide, by decide, by decide, ?_⟩; (conv => whnf)
  refine ⟨LG (fun i : Nat => i ≤ 16) (fun i => 16 - i) (fun i => AS.of [(0, .one (.row true 1 (st.map eN))), (1, .one (.lit (.string b))), (5, .one (.loc 400 0 64)), (6, .one (.lit (.int .i64 (i : Nat))))] [(400, .row true 1 ((wRow (sched b i)).map eW))]), lg_init 0 (by omega) (weak_of allsA allsA rfl rfl), ?_⟩
  rintro σ k ⟨i, hi, rfl, rfl⟩
  refine ⟨_, Weak.refl _, ?_⟩
  (conv => whnf)
  (split <;> rename_i h <;> (try simp only [decide_eq_true_eq, decide_eq_false_iff_not, Bool.not_eq_true', Bool.not_eq_false', Bool.not_eq_true, Bool.not_eq_false, List.length_map] at h) <;> conv => whnf)
  · have hl := sched_len b i
    refine ⟨((4 * i : Nat) : Int), by rw [← wrap64_id] <;> omega, ?_⟩; (conv => whnf)
    refine ⟨4 * i, rfl, by omega, ?_⟩; (conv => whnf)
    refine ⟨((byteW b (4 * i)).toNat : Int), (u8_u32 _).symm, ?_⟩; (conv => whnf)
    refine ⟨by decide, _, (u32_shl _ 24 (by decide)).symm, ?_⟩; (conv => whnf)
    refine ⟨((4 * i : Nat) : Int), by rw [← wrap64_id] <;> omega, ?_⟩; (conv => whnf)
    refine ⟨((4 * i + 1 : Nat) : Int), by rw [← wrap64_id] <;> omega, ?_⟩; (conv => whnf)
    refine ⟨4 * i + 1, rfl, by omega, ?_⟩; (conv => whnf)
    refine ⟨((byteW b (4 * i + 1)).toNat : Int), (u8_u32 _).symm, ?_⟩; (conv => whnf)
    refine ⟨by decide, _, (u32_shl _ 16 (by decide)).symm, ?_⟩; (conv => whnf)
    refine ⟨((4 * i : Nat) : Int), by rw [← wrap64_id] <;> omega, ?_⟩; (conv => whnf)
    refine ⟨((4 * i + 2 : Nat) : Int), by rw [← wrap64_id] <;> omega, ?_⟩; (conv => whnf)
    refine ⟨4 * i + 2, rfl, by omega, ?_⟩; (conv => whnf)
    refine ⟨((byteW b (4 * i + 2)).toNat : Int), (u8_u32 _).symm, ?_⟩; (conv => whnf)
    refine ⟨by decide, _, (u32_shl _ 8 (by decide)).symm, ?_⟩; (conv => whnf)
    refine ⟨((4 * i : Nat) : Int), by rw [← wrap64_id] <;> omega, ?_⟩; (conv => whnf)
    refine ⟨((4 * i + 3 : Nat) : Int), by rw [← wrap64_id] <;> omega, ?_⟩; (conv => whnf)
    refine ⟨4 * i + 3, rfl, by omega, ?_⟩; (conv => whnf)
    refine ⟨((byteW b (4 * i + 3)).toNat : Int), (u8_u32 _).symm, ?_⟩; (conv => whnf)
    refine ⟨i, rfl, by omega, ?_⟩; (conv => whnf)
    obtain ⟨x0, hx0⟩ := wRow_in (w := sched b i) (by omega) (show i < 64 by omega)
    refine ⟨_, hx0, ?_⟩; (conv => whnf)
    have hi16 : i < 16 := by omega
    refine ⟨(wRow (sched b (i + 1))).map eW, by
      have := wRow_store (w := sched b i) (by omega) (v := be32 b (4 * i)) (show bits .or .u32 (bits .or .u32 (bits .or .u32 ((byteW b (4 * i) <<< UInt32.ofNat 24).toNat : Int) ((byteW b (4 * i + 1) <<< UInt32.ofNat 16).toNat : Int)) ((byteW b (4 * i + 2) <<< UInt32.ofNat 8).toNat : Int)) ((byteW b (4 * i + 3)).toNat : Int) = ((be32 b (4 * i)).toNat : Int) by simp only [u32_or]; rfl)
      rw [hl] at this
      rw [show sched b (i + 1) = sched b i ++ [be32 b (4 * i)] by simp only [sched, schedN, hl, if_pos hi16]]
      exact this, ?_⟩; (conv => whnf)
    (refine ⟨((i + 1 : Nat) : Int), by rw [← wrap64_id] <;> omega, ?_⟩; conv => whnf)
    exact lg_back (i + 1) (by omega) (by (try dsimp only); omega) (weak_of allsA allsA rfl rfl)
  · have : i = 16 := by omega
    subst this
    refine ⟨LG (fun i : Nat => 16 ≤ i ∧ i ≤ 64) (fun i => 64 - i) (fun i => AS.of [(0, .one (.row true 1 (st.map eN))), (5, .one (.loc 400 0 64)), (7, .one (.lit (.int .i64 (i : Nat))))] [(400, .row true 1 ((wRow (sched b i)).map eW))]), lg_init 16 (by omega) (weak_of allsA allsA rfl rfl), ?_⟩
    rintro σ k ⟨i, ⟨hi0, hi⟩, rfl, rfl⟩
    refine ⟨_, Weak.refl _, ?_⟩
    (conv => whnf)
    (split <;> rename_i h2 <;> (try simp only [decide_eq_true_eq, decide_eq_false_iff_not, Bool.not_eq_true', Bool.not_eq_false', Bool.not_eq_true, Bool.not_eq_false, List.length_map] at h2) <;> conv => whnf)
    · have hl := sched_len b i
      obtain ⟨w, hw⟩ : ∃ w, sched b i = w := ⟨_, rfl⟩
      simp only [hw] at hl ⊢
      have hsc : sched b (i + 1) = w ++ [w.getD (i - 16) 0 + sg0 (w.getD (i - 15) 0) + w.getD (i - 7) 0 + sg1 (w.getD (i - 2) 0)] := by
        simp only [sched, schedN, hw, if_neg (show ¬ i < 16 by omega)]
      refine ⟨((i - 15 : Nat) : Int), by rw [← wrap64_id] <;> omega, ?_⟩; (conv => whnf)
      refine ⟨i - 15, rfl, by omega, ?_⟩; (conv => whnf)
      refine ⟨_, wRow_at (w := w) (j := i - 15) (by omega), ?_⟩; (conv => whnf)
      refine ⟨((i - 2 : Nat) : Int), by rw [← wrap64_id] <;> omega, ?_⟩; (conv => whnf)
      refine ⟨i - 2, rfl, by omega, ?_⟩; (conv => whnf)
      refine ⟨_, wRow_at (w := w) (j := i - 2) (by omega), ?_⟩; (conv => whnf)
      obtain ⟨x, hx⟩ : ∃ x, w.getD (i - 15) 0 = x := ⟨_, rfl⟩
      obtain ⟨y, hy⟩ : ∃ y, w.getD (i - 2) 0 = y := ⟨_, rfl⟩
      simp only [hx, hy] at hsc ⊢
      refine ⟨((i - 16 : Nat) : Int), by rw [← wrap64_id] <;> omega, ?_⟩; (conv => whnf)
      refine ⟨i - 16, rfl, by omega, ?_⟩; (conv => whnf)
      refine ⟨_, wRow_at (w := w) (j := i - 16) (by omega), ?_⟩; (conv => whnf)
      refine ⟨_, _, l05Turn_c x 7 (by decide) (by decide), lendA, ?_⟩; (conv => whnf)
      refine ⟨_, _, l05Turn_c x 18 (by decide) (by decide), lendA, ?_⟩; (conv => whnf)
      refine ⟨by decide, _, (u32_shr x 3 (by decide)).symm, ?_⟩; (conv => whnf)
      refine ⟨((w.getD (i - 16) 0 + sg0 x).toNat : Int), by rw [← u32_add]; simp only [u32_xor, sg0], ?_⟩; (conv => whnf)
      refine ⟨((i - 7 : Nat) : Int), by rw [← wrap64_id] <;> omega, ?_⟩; (conv => whnf)
      refine ⟨i - 7, rfl, by omega, ?_⟩; (conv => whnf)
      refine ⟨_, wRow_at (w := w) (j := i - 7) (by omega), ?_⟩; (conv => whnf)
      refine ⟨_, (u32_add _ _).symm, ?_⟩; (conv => whnf)
      refine ⟨_, _, l05Turn_c y 17 (by decide) (by decide), lendA, ?_⟩; (conv => whnf)
      refine ⟨_, _, l05Turn_c y 19 (by decide) (by decide), lendA, ?_⟩; (conv => whnf)
      refine ⟨by decide, _, (u32_shr y 10 (by decide)).symm, ?_⟩; (conv => whnf)
      refine ⟨((w.getD (i - 16) 0 + sg0 x + w.getD (i - 7) 0 + sg1 y).toNat : Int), by rw [← u32_add (_ + _)]; simp only [u32_xor, sg1], ?_⟩; (conv => whnf)
      refine ⟨i, rfl, by omega, ?_⟩; (conv => whnf)
      obtain ⟨x0, hx0⟩ := wRow_in (w := w) (by omega) (show i < 64 by omega)
      refine ⟨_, hx0, ?_⟩; (conv => whnf)
      refine ⟨(wRow (sched b (i + 1))).map eW, by
        have := wRow_store (w := w) (by omega) (v := w.getD (i - 16) 0 + sg0 x + w.getD (i - 7) 0 + sg1 y) rfl
        rw [hl] at this
        rw [hsc]
        exact this, ?_⟩; (conv => whnf)
      (refine ⟨((i + 1 : Nat) : Int), by rw [← wrap64_id] <;> omega, ?_⟩; conv => whnf)
      exact lg_back (i + 1) (by omega) (by (try dsimp only); omega) (weak_of allsA allsA rfl rfl)
    · have : i = 64 := by omega
      subst this
      obtain ⟨W, hW⟩ : ∃ W, sched b 64 = W := ⟨_, rfl⟩
      have hWl : W.length = 64 := by rw [← hW]; exact sched_len b 64
      have hblk : block st b = addW st (rounds W (S8.of st) 64).list := by unfold block; rw [hW]
      rw [hblk]
      simp only [hW]
      clear hblk hW
      match st, hs with
      | [s0, s1, s2, s3, s4, s5, s6, s7], _ => ?_
      refine ⟨0, rfl, _, rfl, ?_⟩; (conv => whnf)
      refine ⟨(s0.toNat : Int), (u32_wrap s0).symm, ?_⟩; (conv => whnf)
      refine ⟨1, rfl, _, rfl, ?_⟩; (conv => whnf)
      refine ⟨(s1.toNat : Int), (u32_wrap s1).symm, ?_⟩; (conv => whnf)
      refine ⟨2, rfl, _, rfl, ?_⟩; (conv => whnf)
      refine ⟨(s2.toNat : Int), (u32_wrap s2).symm, ?_⟩; (conv => whnf)
      refine ⟨3, rfl, _, rfl, ?_⟩; (conv => whnf)
      refine ⟨(s3.toNat : Int), (u32_wrap s3).symm, ?_⟩; (conv => whnf)
      refine ⟨4, rfl, _, rfl, ?_⟩; (conv => whnf)
      refine ⟨(s4.toNat : Int), (u32_wrap s4).symm, ?_⟩; (conv => whnf)
      refine ⟨5, rfl, _, rfl, ?_⟩; (conv => whnf)
      refine ⟨(s5.toNat : Int), (u32_wrap s5).symm, ?_⟩; (conv => whnf)
      refine ⟨6, rfl, _, rfl, ?_⟩; (conv => whnf)
      refine ⟨(s6.toNat : Int), (u32_wrap s6).symm, ?_⟩; (conv => whnf)
      refine ⟨7, rfl, _, rfl, ?_⟩; (conv => whnf)
      refine ⟨(s7.toNat : Int), (u32_wrap s7).symm, ?_⟩; (conv => whnf)
      have cK := l05Keys_c
      have hRs : ∀ i, rounds W (S8.of [s0, s1, s2, s3, s4, s5, s6, s7]) (i + 1) = rnd (rounds W (S8.of [s0, s1, s2, s3, s4, s5, s6, s7]) i) (keysL.getD i 0) (W.getD i 0) := fun i => rfl
      have hKl : keysL.length = 64 := rfl
      have hR0 : rounds W (S8.of [s0, s1, s2, s3, s4, s5, s6, s7]) 0 = ⟨s0, s1, s2, s3, s4, s5, s6, s7⟩ := rfl
      generalize rounds W (S8.of [s0, s1, s2, s3, s4, s5, s6, s7]) = RR at hRs hR0 ⊢
      generalize keysL = K at cK hRs hKl
      refine ⟨_, _, cK, lendA, ?_⟩; (conv => whnf)
      refine ⟨LG (fun p : Nat × S8 => p.1 ≤ 64 ∧ p.2 = RR p.1) (fun p => 64 - p.1) (fun p => AS.of [(0, .one (.row true 1 ([s0, s1, s2, s3, s4, s5, s6, s7].map eN))), (5, .one (.loc 400 0 64)),
          (10, .one (.lit (.int .u32 p.2.a.toNat))), (11, .one (.lit (.int .u32 p.2.b.toNat))), (12, .one (.lit (.int .u32 p.2.c.toNat))), (13, .one (.lit (.int .u32 p.2.d.toNat))),
          (14, .one (.lit (.int .u32 p.2.e.toNat))), (15, .one (.lit (.int .u32 p.2.f.toNat))), (16, .one (.lit (.int .u32 p.2.g.toNat))), (17, .one (.lit (.int .u32 p.2.h.toNat))),
          (18, .one (.loc 2240 0 64)), (19, .one (.lit (.int .i64 (p.1 : Nat))))] [(400, .row true 1 ((wRow W).map eW)), (2240, .row true 1 (K.map eW))]), lg_init (0, ⟨s0, s1, s2, s3, s4, s5, s6, s7⟩) ⟨by omega, hR0.symm⟩ (weak_of (all_cons rfl (all_cons rfl (all_cons rfl (all_cons rfl (all_cons rfl (all_cons rfl (all_cons rfl (all_cons rfl (all_cons rfl (all_cons rfl (all_cons (eq_loc rfl (by simp [hKl])) (all_cons rfl all_nil)))))))))))) allsA rfl rfl), ?_⟩
      rintro σ k ⟨⟨i, s⟩, ⟨hi, hS⟩, rfl, rfl⟩
      simp only at hi hS ⊢
      refine ⟨_, Weak.refl _, ?_⟩
      (conv => whnf)
      (split <;> rename_i h3 <;> (try simp only [decide_eq_true_eq, decide_eq_false_iff_not, Bool.not_eq_true', Bool.not_eq_false', Bool.not_eq_true, Bool.not_eq_false, List.length_map] at h3) <;> conv => whnf)
      · have hsc := hRs i
        rw [← hS] at hsc
        obtain ⟨a, b1, c, d, e, f, g, h⟩ := s
        dsimp only
        refine ⟨_, _, l05Turn_c e 6 (by decide) (by decide), lendA, ?_⟩; (conv => whnf)
        refine ⟨_, _, l05Turn_c e 11 (by decide) (by decide), lendA, ?_⟩; (conv => whnf)
        refine ⟨_, _, l05Turn_c e 25 (by decide) (by decide), lendA, ?_⟩; (conv => whnf)
        refine ⟨((h + bs1 e).toNat : Int), by rw [← u32_add]; simp only [u32_xor, bs1], ?_⟩; (conv => whnf)
        refine ⟨((h + bs1 e + chW e f g).toNat : Int), by rw [← u32_add (_ + _)]; simp only [u32_xor, u32_and, u32_not', chW], ?_⟩; (conv => whnf)
        refine ⟨i, rfl, by omega, ?_⟩; (conv => whnf)
        refine ⟨eW (K.getD i 0), by
          have hk : i < K.length := by omega
          rw [Nat.zero_add, List.getElem?_map, List.getD_eq_getElem?_getD, List.getElem?_eq_getElem hk]; rfl, ?_⟩; (conv => whnf)
        refine ⟨_, (u32_add _ _).symm, ?_⟩; (conv => whnf)
        refine ⟨i, rfl, by omega, ?_⟩; (conv => whnf)
        refine ⟨_, wRow_at (w := W) (j := i) (by omega), ?_⟩; (conv => whnf)
        refine ⟨_, (u32_add _ _).symm, ?_⟩; (conv => whnf)
        refine ⟨_, _, l05Turn_c a 2 (by decide) (by decide), lendA, ?_⟩; (conv => whnf)
        refine ⟨_, _, l05Turn_c a 13 (by decide) (by decide), lendA, ?_⟩; (conv => whnf)
        refine ⟨_, _, l05Turn_c a 22 (by decide) (by decide), lendA, ?_⟩; (conv => whnf)
        refine ⟨((bs0 a + majW a b1 c).toNat : Int), by rw [← u32_add]; simp only [u32_xor, u32_and, bs0, majW], ?_⟩; (conv => whnf)
        refine ⟨_, (u32_add _ _).symm, ?_⟩; (conv => whnf)
        refine ⟨_, (u32_add _ _).symm, ?_⟩; (conv => whnf)
        (refine ⟨((i + 1 : Nat) : Int), by rw [← wrap64_id] <;> omega, ?_⟩; conv => whnf)
        exact lg_back ((i + 1, rnd ⟨a, b1, c, d, e, f, g, h⟩ (K.getD i 0) (W.getD i 0)) : Nat × S8) ⟨by show i + 1 ≤ 64; omega, hsc.symm⟩ (by (try dsimp only); omega) (weak_of allsA allsA rfl rfl)
      · have : i = 64 := by omega
        subst this
        rw [← hS]
        obtain ⟨a, b1, c, d, e, f, g, h⟩ := s
        dsimp only
        (conv => whnf)
        refine ⟨LG (fun i : Nat => i ≤ 8) (fun i => 8 - i) (fun i => AS.of [(0, .one (.row true 1 ([s0, s1, s2, s3, s4, s5, s6, s7].map eN))), (22, .one (.loc 3424 0 8)), (23, .one (.loc 3440 0 i)), (24, .one (.lit (.int .i64 (i : Nat))))]
          [(3424, .row true 1 ([a, b1, c, d, e, f, g, h].map eW)), (3440, .row true 1 (((addW [s0, s1, s2, s3, s4, s5, s6, s7] [a, b1, c, d, e, f, g, h]).take i).map eN))]), lg_init 0 (by omega) (weak_of allsA allsA rfl rfl), ?_⟩
        have e0 : (S8.mk a b1 c d e f g h).list = [a, b1, c, d, e, f, g, h] := rfl
        rw [e0]
        have hLl : [s0, s1, s2, s3, s4, s5, s6, s7].length = 8 := rfl
        have hVl : [a, b1, c, d, e, f, g, h].length = 8 := rfl
        generalize [s0, s1, s2, s3, s4, s5, s6, s7] = L at hLl ⊢
        generalize [a, b1, c, d, e, f, g, h] = V at hVl ⊢
        have hAl : (addW L V).length = 8 := by simp [addW, hLl, hVl]
        rintro σ k ⟨i, hi, rfl, rfl⟩
        refine ⟨_, Weak.refl _, ?_⟩
        (conv => whnf)
        (split <;> rename_i h4 <;> (try simp only [decide_eq_true_eq, decide_eq_false_iff_not, Bool.not_eq_true', Bool.not_eq_false', Bool.not_eq_true, Bool.not_eq_false, List.length_map] at h4) <;> conv => whnf)
        · have hiL : i < L.length := by omega
          have hiV : i < V.length := by omega
          have hsx : (addW L V).take (i + 1) = (addW L V).take i ++ [L[i] + V[i]] := by
            rw [List.take_succ_eq_append_getElem (by omega)]; simp [addW]
          refine ⟨i, rfl, _, at_map hiL, ?_⟩; (conv => whnf)
          refine ⟨(L[i].toNat : Int), (u32_wrap _).symm, ?_⟩; (conv => whnf)
          refine ⟨i, rfl, by omega, ?_⟩; (conv => whnf)
          refine ⟨_, at_map0 hiV, ?_⟩; (conv => whnf)
          refine ⟨_, (u32_add _ _).symm, ?_⟩; (conv => whnf)
          have hlt := u32_lt (L[i] + V[i])
          refine ⟨((L[i] + V[i]).toNat : Int), by rw [← wrap64_id] <;> omega, ?_⟩; (conv => whnf)
          refine ⟨true, [eN (L[i] + V[i])], ⟨rfl, by first | (simp [chunk]; done) | (simp [chunk, hAl]; done) | (simp [chunk, hAl]; omega), rfl, by simp [chunk]; rfl⟩, ?_⟩; (conv => whnf)
          refine ⟨[eN (L[i] + V[i])], laid_map (f := eN) (fun _ => rfl) [L[i] + V[i]], rfl, by first | (simp [chunk]; done) | (simp [chunk, hAl]; done) | (simp [chunk, hAl]; omega), rfl, by simp [maxLen, chunk]; omega, by simp [chunk]; omega, ?_⟩; (conv => whnf)
          (refine ⟨((i + 1 : Nat) : Int), by rw [← wrap64_id] <;> omega, ?_⟩; conv => whnf)
          exact lg_back (i + 1) (by omega) (by (try dsimp only); omega) (weak_of (all_cons rfl (all_cons rfl (all_cons (eq_loc rfl (by first | (simp [chunk, hAl]; done) | (simp [chunk, hAl]; omega))) (all_cons rfl all_nil)))) (all_cons rfl (all_cons (eq_row rfl (by rw [hsx]; simp [chunk])) all_nil)) rfl rfl)
        · have : i = 8 := by omega
          subst this
          have : (addW L V).take 8 = addW L V := List.take_of_length_le (by omega)
          exact ⟨close_row rfl rfl (by simp [hAl]) (by rw [this]), trivial⟩
end Go.Proofs.YthdejoipdgahiaaGreatDoor
namespace Go.Proofs.YthdejoipdgahiaaGreatDoor
open Go.RowKit
set_option linter.unusedSimpArgs false
set_option linter.unusedVariables false
set_option maxRecDepth 100000
set_option maxHeartbeats 8000000
abbrev eV (x : UInt32) : AV := .lit (.int .u32 (x.toNat : Int))
theorem dec_ok {c : Prop} {d : Decidable c} {A : ¬ c → Prop} {B : c → Prop} (hc : c) (h : B hc) : @Decidable.rec c (fun _ => Prop) A B d := by
  cases d with
  | isTrue _ => exact h
  | isFalse h' => exact absurd hc h'
theorem mk1 {xs : List AV} {i : Nat} {x : AV} (hx : xs[i]? = some x) : mkT false ((xs.drop (0 + i * 1)).take 1) = .one x.bor := by
  obtain ⟨hi, rfl⟩ := List.getElem?_eq_some_iff.1 hx
  rw [Nat.zero_add, Nat.mul_one, List.drop_eq_getElem_cons hi]; rfl
theorem mk1c {α : Type} {xs : List α} {i : Nat} {x : α} (hx : xs[i]? = some x) : 0 + i * 1 + 1 ≤ xs.length := by
  obtain ⟨hi, rfl⟩ := List.getElem?_eq_some_iff.1 hx; omega
theorem mkg {cs : List Value} {i : Nat} {v : Value} (hx : cs[i]? = some v) : mkT false (((cs.drop (0 + i * 1)).take 1).map .lit) = .one (.lit v) := by
  obtain ⟨hi, rfl⟩ := List.getElem?_eq_some_iff.1 hx
  rw [Nat.zero_add, Nat.mul_one, List.drop_eq_getElem_cons hi]; rfl
theorem splice_one {l : List UInt32} {i : Nat} {v : UInt32} {y : AV} (h : i < l.length) (hy : y = eV v) : splice 1 [y] (0 + i * 1) (l.map eV) = (l.set i v).map eV := by
  subst hy
  rw [splice_eq, Nat.zero_add, Nat.mul_one, List.map_set, List.set_eq_take_append_cons_drop, if_pos (by simpa using h)]
  simp
theorem set_step {A L : List UInt32} {i : Nat} {x : UInt32} (hA : i < A.length) (hL : i < L.length) (hx : x = A[i]) : (A.take i ++ L.drop i).set i x = A.take (i + 1) ++ L.drop (i + 1) := by
  have hl : (A.take i).length = i := by rw [List.length_take]; omega
  rw [List.take_succ_eq_append_getElem hA, List.drop_eq_getElem_cons hL, List.set_append_right _ _ (by omega), hl, Nat.sub_self, List.append_assoc, hx]; rfl
theorem get_step {A L : List UInt32} {i : Nat} (hA : i < A.length) (hL : i < L.length) : (A.take i ++ L.drop i).getD i 0 = L[i] := by
  have hl : (A.take i).length = i := by rw [List.length_take]; omega
  rw [List.getD_eq_getElem?_getD, List.getElem?_append_right (by omega), hl, Nat.sub_self, List.getElem?_drop, Nat.add_zero, List.getElem?_eq_getElem hL]; rfl
theorem getD_at {L : List UInt32} {i : Nat} (hL : i < L.length) : L.getD i 0 = L[i] := by
  rw [List.getD_eq_getElem?_getD, List.getElem?_eq_getElem hL]; rfl
theorem get_map {l : List UInt32} {i : Nat} (h : i < l.length) : (l.map eV)[i]? = some (eV (l.getD i 0)) := by
  rw [List.getElem?_map, List.getD_eq_getElem?_getD, List.getElem?_eq_getElem h]; rfl
theorem and31 {k : Nat} (h0 : 0 < k) (h1 : k < 32) : bits .and .u64 ((18446744073709551616 - k : Nat) : Int) 31 = ((32 - k : Nat) : Int) := by
  show IntKind.u64.wrap ((BitVec.ofInt 64 ((18446744073709551616 - k : Nat) : Int) &&& BitVec.ofInt 64 ((31 : Nat) : Int)).toNat : Int) = _
  rw [BitVec.toNat_and, ofIntN _ (by omega), ofIntN _ (by omega), show (31 : Nat) = 2 ^ 5 - 1 from rfl, Nat.and_two_pow_sub_one_eq_mod, IntKind.wrap_u64]
  omega
theorem rot_c (x : UInt32) (k : Nat) (h0 : 0 < k) (h1 : k < 32) : Fun1 Tryz.prog 173 [.one (eV x), .one (.lit (.int .i64 (-(k : Int))))] (.one (eV (turnW x k))) := by
  refine fun1_of_vc tb_ok mix (fn := Tryz.f173) Tryz.func173 rfl (by kernel_rfl) (by kernel_rfl) (by simp [Tryz.f173]) (by rfl) ?_
  (conv => whnf)
  refine ⟨((18446744073709551616 - k : Nat) : Int), by rw [IntKind.wrap_u64]; omega, ?_⟩; (conv => whnf)
  rw [and31 h0 h1]
  refine ⟨by omega, ((x <<< UInt32.ofNat (32 - k)).toNat : Int), by rw [← u32_shl x (32 - k) (by omega)]; congr 3; show 32 - k = min (((32 - k : Nat) : Int).toNat) 32; omega, ?_⟩; (conv => whnf)
  refine ⟨(k : Int), by rw [IntKind.wrap_u64]; omega, ?_⟩; (conv => whnf)
  refine ⟨by omega, ((x >>> UInt32.ofNat k).toNat : Int), by rw [← u32_shr x k h1]; congr 2; show k = min ((k : Int).toNat) 32; omega, ?_⟩; (conv => whnf)
  exact ⟨close_int (by rw [u32_or, turnW, UInt32.or_comm]), trivial⟩
theorem right_c (x : UInt32) (k : Nat) (h0 : 0 < k) (h1 : k < 32) : Fun1 Tryz.prog 143 [.one (eV x), .one (.lit (.int .i64 (k : Int)))] (.one (eV (turnW x k))) := by
  refine fun1_of_vc tb_ok mix (fn := Tryz.f143) Tryz.func143 rfl (by kernel_rfl) (by kernel_rfl) (by simp [Tryz.f143]) (by rfl) ?_
  (conv => whnf)
  refine ⟨-(k : Int), by rw [← wrap64_id] <;> omega, ?_⟩; (conv => whnf)
  refine ⟨_, _, rot_c x k h0 h1, lendA, ?_⟩; (conv => whnf)
  exact ⟨close_int rfl, trivial⟩
def partW (b : ByteArray) (i : Nat) : Nat → UInt32
  | 0 => 0
  | k + 1 => (partW b i k <<< UInt32.ofNat 8) ||| byteW b (4 * i + k)
theorem or_shl (x y : UInt32) (k : UInt32) : (x ||| y) <<< k = (x <<< k) ||| (y <<< k) := by
  apply UInt32.toBitVec_inj.1
  simp [UInt32.toBitVec_shiftLeft, UInt32.toBitVec_or, BitVec.shiftLeft_or_distrib]
theorem partW_end (b : ByteArray) (i : Nat) : partW b i 4 = be32 b (4 * i) := by
  have e1 : ∀ (x : UInt32) (p q : Nat), p + q < 32 → (x <<< UInt32.ofNat p) <<< UInt32.ofNat q = x <<< UInt32.ofNat (p + q) := by
    intro x p q h
    apply UInt32.toNat_inj.1
    rw [UInt32.toNat_shiftLeft, UInt32.toNat_shiftLeft, UInt32.toNat_shiftLeft, u32_k (by omega), u32_k (by omega), u32_k h]
    simp only [Nat.shiftLeft_eq, Nat.mod_mul_mod, Nat.pow_add, Nat.mul_assoc]
  have e0 : ((0 : UInt32) <<< UInt32.ofNat 8) = 0 := by decide
  have ez : ∀ x : UInt32, 0 ||| x = x := fun x => by simp
  simp only [partW, be32, e0, ez, or_shl, e1 _ 8 8 (by decide), e1 _ 16 8 (by decide), e1 _ (8 + 8) 8 (by decide)]
  rfl
theorem wRow_set0 {w : List UInt32} (h : w.length < 64) : (wRow w).set w.length 0 = wRow w := by
  rw [wRow_set h]
  unfold wRow
  have e : 64 - w.length = (64 - (w ++ [(0 : UInt32)]).length) + 1 := by simp; omega
  rw [e, List.replicate_succ, List.append_assoc]; rfl
theorem roots_eq : gv1 = keysL.map fun x => .int .u32 (x.toNat : Int) := by kernel_rfl
theorem roots_at {i : Nat} (h : i < 64) : gv1[i]? = some (.int .u32 ((keysL.getD i 0).toNat : Int)) := by
  rw [roots_eq, List.getElem?_map, List.getD_eq_getElem?_getD, List.getElem?_eq_getElem (show i < keysL.length from h)]; rfl
end Go.Proofs.YthdejoipdgahiaaGreatDoor
namespace Go.Proofs.YthdejoipdgahiaaGreatDoor
open Go.RowKit
set_option linter.unusedSimpArgs false
set_option linter.unusedVariables false
set_option maxRecDepth 100000
set_option maxHeartbeats 8000000
theorem var_only {l : List Nat} (xs : List UInt32) : (Blk.var (xs.map eV)).only l = true := by
  show (xs.map eV).all (AV.only l) = true
  rw [List.all_eq_true]
  intro x hx
  obtain ⟨y, _, rfl⟩ := List.mem_map.1 hx
  rfl
theorem eVs_nb (l : List UInt32) : (T.agg (l.map eV)).nb = true := by
  show (l.map eV).all (AV.nb 5) = true
  rw [List.all_eq_true]
  intro x hx
  obtain ⟨y, _, rfl⟩ := List.mem_map.1 hx
  rfl
def zero8 : List AV := [.lit (.int .u32 0), .lit (.int .u32 0), .lit (.int .u32 0), .lit (.int .u32 0), .lit (.int .u32 0), .lit (.int .u32 0), .lit (.int .u32 0), .lit (.int .u32 0)]
theorem taken_c (s0 s1 s2 s3 s4 s5 s6 s7 : UInt32) (b : ByteArray) (hb : b.size = 64) :
    Fun1 Tryz.prog 105 [.agg ([s0, s1, s2, s3, s4, s5, s6, s7].map eV), .one (.lit (.string b))] (.agg ((block [s0, s1, s2, s3, s4, s5, s6, s7] b).map eV)) := by
  obtain ⟨st, hst⟩ : ∃ st, st = [s0, s1, s2, s3, s4, s5, s6, s7] := ⟨_, rfl⟩
  refine fun1_of_vc tb_ok mix (fn := Tryz.f105) Tryz.func105 rfl (by kernel_rfl) (by kernel_rfl) (by simp [Tryz.f105]) (by exact eVs_nb _) ?_
  rw [← hst]
  (conv => whnf)
  refine ⟨LG (fun i : Nat => i ≤ 64) (fun i => 64 - i) (fun i => AS.of [(1, .one (.lit (.string b))), (2, .one (.ptr 32 0)), (4, .one (.ptr 64 0)), (5, .one (.ptr 80 0)), (21, .one (.lit (.int .i64 (i : Nat))))] [(32, .var (st.map eV)), (64, .var zero8), (80, .var ((wRow (sched b i)).map eV))]),
    lg_init 0 (by omega) (weak_of allsA allsA rfl (by repeat (first | exact onm_nil | refine onm_cons (by first | rfl | exact var_only _) ?_))), ?_⟩
  rintro σ k ⟨i, hi, rfl, rfl⟩
  have hl := sched_len b i
  have hrl := wRow_len (w := sched b i) (by omega)
  refine ⟨_, Weak.refl _, ?_⟩
  (conv => whnf)
  (split <;> rename_i h <;> (try simp only [decide_eq_true_eq, decide_eq_false_iff_not, Bool.not_eq_true', Bool.not_eq_false', Bool.not_eq_true, Bool.not_eq_false, List.length_map] at h) <;> conv => whnf)
  · have hlt : i < 64 := by omega
    (split <;> rename_i h2 <;> (try simp only [decide_eq_true_eq, decide_eq_false_iff_not, Bool.not_eq_true', Bool.not_eq_false', Bool.not_eq_true, Bool.not_eq_false, List.length_map] at h2) <;> conv => whnf)
    · have hi16 : i < 16 := by omega
      have hb0 : (wRow (sched b i)).set i 0 = wRow (sched b i) := by
        have := wRow_set0 (w := sched b i) (by omega)
        rw [hl] at this; exact this
      have hs1 : sched b (i + 1) = sched b i ++ [be32 b (4 * i)] := by simp only [sched, schedN, if_pos hi16]
      have hb4 : (wRow (sched b i)).set i (be32 b (4 * i)) = wRow (sched b (i + 1)) := by
        have := wRow_set (w := sched b i) (by omega) (be32 b (4 * i))
        rw [hl] at this; rw [hs1]; exact this
      refine ⟨LG (fun q : Nat => q ≤ 4) (fun q => 4 - q) (fun q => AS.of [(1, .one (.lit (.string b))), (2, .one (.ptr 32 0)), (4, .one (.ptr 64 0)), (5, .one (.ptr 80 0)), (6, .one (.lit (.int .i64 (i : Nat)))), (21, .one (.lit (.int .i64 (i : Nat)))), (26, .one (.lit (.int .i64 (q : Nat))))] [(32, .var (st.map eV)), (64, .var zero8), (80, .var (((wRow (sched b i)).set i (partW b i q)).map eV))]),
        lg_init 0 (by omega) (weak_of allsA (all_cons rfl (all_cons rfl (all_cons (eq_var rfl (by rw [show partW b i 0 = 0 from rfl, hb0])) all_nil))) rfl (by repeat (first | exact onm_nil | refine onm_cons (by first | rfl | exact var_only _) ?_))), ?_⟩
      rintro σ k ⟨q, hq, rfl, rfl⟩
      have hsl : ((wRow (sched b i)).set i (partW b i q)).length = 64 := by rw [List.length_set, hrl]
      refine ⟨_, Weak.refl _, ?_⟩
      (conv => whnf)
      (split <;> rename_i h3 <;> (try simp only [decide_eq_true_eq, decide_eq_false_iff_not, Bool.not_eq_true', Bool.not_eq_false', Bool.not_eq_true, Bool.not_eq_false, List.length_map] at h3) <;> conv => whnf)
      · have hlq : q < 4 := by omega
        refine ⟨i, rfl, hlt, ?_⟩; (conv => whnf)
        have hgx := get_map (l := (wRow (sched b i)).set i (partW b i q)) (i := i) (by omega)
        rw [show ((wRow (sched b i)).set i (partW b i q)).getD i 0 = partW b i q by rw [List.getD_eq_getElem?_getD, List.getElem?_set, if_pos rfl, if_pos (by omega)]; rfl] at hgx
        (refine dec_ok (mk1c hgx) ?_; rw [mk1 hgx]; conv => whnf)
        refine ⟨by decide, _, (u32_shl _ 8 (by decide)).symm, ?_⟩; (conv => whnf)
        refine ⟨((4 * i : Nat) : Int), by rw [← wrap64_id] <;> omega, ?_⟩; (conv => whnf)
        refine ⟨((4 * i + q : Nat) : Int), by rw [← wrap64_id] <;> omega, ?_⟩; (conv => whnf)
        refine ⟨4 * i + q, rfl, by omega, ?_⟩; (conv => whnf)
        refine ⟨((byteW b (4 * i + q)).toNat : Int), (u8_u32 _).symm, ?_⟩; (conv => whnf)
        refine ⟨i, rfl, hlt, ?_⟩; (conv => whnf)
        refine dec_ok (by rw [List.length_map]; omega) ?_; (conv => whnf)
        (refine ⟨((q + 1 : Nat) : Int), by rw [← wrap64_id] <;> omega, ?_⟩; conv => whnf)
        exact lg_back (q + 1) (by omega) (by (try dsimp only); omega) (weak_of allsA (all_cons rfl (all_cons rfl (all_cons (eq_var rfl (by rw [splice_one (v := partW b i (q + 1)) (by omega) (by rw [u32_or]; rfl), List.set_set])) all_nil))) rfl (by repeat (first | exact onm_nil | refine onm_cons (by first | rfl | exact var_only _) ?_)))
      · have : q = 4 := by omega
        subst this
        (refine ⟨((i + 1 : Nat) : Int), by rw [← wrap64_id] <;> omega, ?_⟩; conv => whnf)
        exact lg_back (i + 1) (by omega) (by (try dsimp only); omega) (weak_of allsA (all_cons rfl (all_cons rfl (all_cons (eq_var rfl (by rw [partW_end, hb4])) all_nil))) rfl (by repeat (first | exact onm_nil | refine onm_cons (by first | rfl | exact var_only _) ?_)))
    · obtain ⟨w, hw⟩ : ∃ w, sched b i = w := ⟨_, rfl⟩
      have hsc : sched b (i + 1) = w ++ [w.getD (i - 16) 0 + sg0 (w.getD (i - 15) 0) + w.getD (i - 7) 0 + sg1 (w.getD (i - 2) 0)] := by
        simp only [sched, schedN, hw, if_neg (show ¬ i < 16 by omega)]
      simp only [hw] at hl hrl ⊢
      have hgw : ∀ j, j < i → (wRow w).getD j 0 = w.getD j 0 := fun j hj => by
        have := wRow_get (w := w) (j := j) (by omega)
        rw [List.getD_eq_getElem?_getD, this]; rfl
      have hset := wRow_set (w := w) (by omega) (w.getD (i - 16) 0 + sg0 (w.getD (i - 15) 0) + w.getD (i - 7) 0 + sg1 (w.getD (i - 2) 0))
      rw [hl, ← hsc] at hset
      have g15 := get_map (l := wRow w) (i := i - 15) (by omega)
      have g2 := get_map (l := wRow w) (i := i - 2) (by omega)
      have g16 := get_map (l := wRow w) (i := i - 16) (by omega)
      have g7 := get_map (l := wRow w) (i := i - 7) (by omega)
      rw [hgw _ (by omega)] at g15 g2 g16 g7
      obtain ⟨x, hx⟩ : ∃ x, w.getD (i - 15) 0 = x := ⟨_, rfl⟩
      obtain ⟨y, hy⟩ : ∃ y, w.getD (i - 2) 0 = y := ⟨_, rfl⟩
      obtain ⟨z, hz⟩ : ∃ z, w.getD (i - 16) 0 = z := ⟨_, rfl⟩
      obtain ⟨v, hv⟩ : ∃ v, w.getD (i - 7) 0 = v := ⟨_, rfl⟩
      rw [hx, hy, hz, hv] at hset
      rw [hx] at g15
      rw [hy] at g2
      rw [hz] at g16
      rw [hv] at g7
      refine ⟨((i - 15 : Nat) : Int), by rw [← wrap64_id] <;> omega, ?_⟩; (conv => whnf)
      refine ⟨i - 15, rfl, by omega, ?_⟩; (conv => whnf)
      (refine dec_ok (mk1c g15) ?_; rw [mk1 g15]; conv => whnf)
      refine ⟨((i - 2 : Nat) : Int), by rw [← wrap64_id] <;> omega, ?_⟩; (conv => whnf)
      refine ⟨i - 2, rfl, by omega, ?_⟩; (conv => whnf)
      (refine dec_ok (mk1c g2) ?_; rw [mk1 g2]; conv => whnf)
      refine ⟨((i - 16 : Nat) : Int), by rw [← wrap64_id] <;> omega, ?_⟩; (conv => whnf)
      refine ⟨i - 16, rfl, by omega, ?_⟩; (conv => whnf)
      (refine dec_ok (mk1c g16) ?_; rw [mk1 g16]; conv => whnf)
      refine ⟨_, _, right_c x 7 (by decide) (by decide), lendA, ?_⟩; (conv => whnf)
      refine ⟨_, _, right_c x 18 (by decide) (by decide), lendA, ?_⟩; (conv => whnf)
      refine ⟨by decide, _, (u32_shr x 3 (by decide)).symm, ?_⟩; (conv => whnf)
      refine ⟨((z + sg0 x).toNat : Int), by rw [← u32_add]; simp only [u32_xor, sg0], ?_⟩; (conv => whnf)
      refine ⟨((i - 7 : Nat) : Int), by rw [← wrap64_id] <;> omega, ?_⟩; (conv => whnf)
      refine ⟨i - 7, rfl, by omega, ?_⟩; (conv => whnf)
      (refine dec_ok (mk1c g7) ?_; rw [mk1 g7]; conv => whnf)
      refine ⟨_, (u32_add _ _).symm, ?_⟩; (conv => whnf)
      refine ⟨_, _, right_c y 17 (by decide) (by decide), lendA, ?_⟩; (conv => whnf)
      refine ⟨_, _, right_c y 19 (by decide) (by decide), lendA, ?_⟩; (conv => whnf)
      refine ⟨by decide, _, (u32_shr y 10 (by decide)).symm, ?_⟩; (conv => whnf)
      refine ⟨((z + sg0 x + v + sg1 y).toNat : Int), by rw [← u32_add (_ + _)]; simp only [u32_xor, sg1], ?_⟩; (conv => whnf)
      refine ⟨i, rfl, hlt, ?_⟩; (conv => whnf)
      refine dec_ok (by rw [List.length_map]; omega) ?_; (conv => whnf)
      (refine ⟨((i + 1 : Nat) : Int), by rw [← wrap64_id] <;> omega, ?_⟩; conv => whnf)
      exact lg_back (i + 1) (by omega) (by (try dsimp only); omega) (weak_of allsA (all_cons rfl (all_cons rfl (all_cons (eq_var rfl (by rw [splice_one (v := z + sg0 x + v + sg1 y) (by omega) rfl, hset])) all_nil))) rfl (by repeat (first | exact onm_nil | refine onm_cons (by first | rfl | exact var_only _) ?_)))
  · have : i = 64 := by omega
    subst this
    have hblk : block st b = addW st (rounds (sched b 64) (S8.of st) 64).list := rfl
    obtain ⟨W, hW⟩ : ∃ W, sched b 64 = W := ⟨_, rfl⟩
    rw [hW] at hblk
    have hwr : wRow W = W := by unfold wRow; rw [hW] at hl; rw [hl]; simp
    rw [hblk]
    simp only [hW, hwr] at hl hrl ⊢
    clear hblk hrl hW
    subst hst
    (conv => whnf)
    have hRs : ∀ i, rounds W (S8.of [s0, s1, s2, s3, s4, s5, s6, s7]) (i + 1) = rnd (rounds W (S8.of [s0, s1, s2, s3, s4, s5, s6, s7]) i) (keysL.getD i 0) (W.getD i 0) := fun i => rfl
    have hR0 : rounds W (S8.of [s0, s1, s2, s3, s4, s5, s6, s7]) 0 = ⟨s0, s1, s2, s3, s4, s5, s6, s7⟩ := rfl
    generalize rounds W (S8.of [s0, s1, s2, s3, s4, s5, s6, s7]) = RR at hRs hR0 ⊢
    refine ⟨LG (fun p : Nat × S8 => p.1 ≤ 64 ∧ p.2 = RR p.1) (fun p => 64 - p.1) (fun p => AS.of [(2, .one (.ptr 32 0)), (4, .one (.ptr 64 0)), (5, .one (.ptr 80 0)), (10, .one (.ptr 160 0)), (83, .one (.lit (.int .i64 (p.1 : Nat))))] [(32, .var ([s0, s1, s2, s3, s4, s5, s6, s7].map eV)), (64, .var zero8), (80, .var (W.map eV)), (160, .var [eV p.2.a, eV p.2.b, eV p.2.c, eV p.2.d, eV p.2.e, eV p.2.f, eV p.2.g, eV p.2.h])]),
      lg_init (0, ⟨s0, s1, s2, s3, s4, s5, s6, s7⟩) ⟨by show 0 ≤ 64; omega, hR0.symm⟩ (weak_of allsA allsA rfl (by repeat (first | exact onm_nil | refine onm_cons (by first | rfl | exact var_only _) ?_))), ?_⟩
    rintro σ k ⟨⟨i, s⟩, ⟨hi, hS⟩, rfl, rfl⟩
    simp only at hi hS ⊢
    refine ⟨_, Weak.refl _, ?_⟩
    (conv => whnf)
    (split <;> rename_i h3 <;> (try simp only [decide_eq_true_eq, decide_eq_false_iff_not, Bool.not_eq_true', Bool.not_eq_false', Bool.not_eq_true, Bool.not_eq_false, List.length_map] at h3) <;> conv => whnf)
    · have hsc := hRs i
      rw [← hS] at hsc
      obtain ⟨a, b1, c, d, e, f, g, h⟩ := s
      dsimp only
      have hlt : i < 64 := by omega
      refine ⟨0, rfl, by decide, ?_⟩; (conv => whnf)
      refine ⟨1, rfl, by decide, ?_⟩; (conv => whnf)
      refine ⟨2, rfl, by decide, ?_⟩; (conv => whnf)
      refine ⟨4, rfl, by decide, ?_⟩; (conv => whnf)
      refine ⟨5, rfl, by decide, ?_⟩; (conv => whnf)
      refine ⟨6, rfl, by decide, ?_⟩; (conv => whnf)
      refine ⟨7, rfl, by decide, ?_⟩; (conv => whnf)
      refine ⟨_, _, right_c e 6 (by decide) (by decide), lendA, ?_⟩; (conv => whnf)
      refine ⟨_, _, right_c e 11 (by decide) (by decide), lendA, ?_⟩; (conv => whnf)
      refine ⟨_, _, right_c e 25 (by decide) (by decide), lendA, ?_⟩; (conv => whnf)
      refine ⟨((h + bs1 e).toNat : Int), by rw [← u32_add]; simp only [u32_xor, bs1], ?_⟩; (conv => whnf)
      refine ⟨((h + bs1 e + chW e f g).toNat : Int), by rw [← u32_add (_ + _)]; simp only [u32_xor, u32_and, u32_not', chW], ?_⟩; (conv => whnf)
      refine ⟨i, rfl, hlt, ?_⟩; (conv => whnf)
      (refine dec_ok (mk1c (roots_at hlt)) ?_; rw [mkg (roots_at hlt)]; conv => whnf)
      refine ⟨_, (u32_add _ _).symm, ?_⟩; (conv => whnf)
      refine ⟨i, rfl, hlt, ?_⟩; (conv => whnf)
      (refine dec_ok (mk1c (get_map (l := W) (i := i) (by omega))) ?_; rw [mk1 (get_map (l := W) (i := i) (by omega))]; conv => whnf)
      refine ⟨_, (u32_add _ _).symm, ?_⟩; (conv => whnf)
      refine ⟨_, _, right_c a 2 (by decide) (by decide), lendA, ?_⟩; (conv => whnf)
      refine ⟨_, _, right_c a 13 (by decide) (by decide), lendA, ?_⟩; (conv => whnf)
      refine ⟨_, _, right_c a 22 (by decide) (by decide), lendA, ?_⟩; (conv => whnf)
      refine ⟨((bs0 a + majW a b1 c).toNat : Int), by rw [← u32_add]; simp only [u32_xor, u32_and, bs0, majW], ?_⟩; (conv => whnf)
      refine ⟨_, (u32_add _ _).symm, ?_⟩; (conv => whnf)
      refine ⟨3, rfl, by decide, ?_⟩; (conv => whnf)
      refine ⟨_, (u32_add _ _).symm, ?_⟩; (conv => whnf)
      (refine ⟨((i + 1 : Nat) : Int), by rw [← wrap64_id] <;> omega, ?_⟩; conv => whnf)
      exact lg_back ((i + 1, rnd ⟨a, b1, c, d, e, f, g, h⟩ (keysL.getD i 0) (W.getD i 0)) : Nat × S8) ⟨by show i + 1 ≤ 64; omega, hsc.symm⟩ (by (try dsimp only); omega) (weak_of allsA allsA rfl (by repeat (first | exact onm_nil | refine onm_cons (by first | rfl | exact var_only _) ?_)))
    · have : i = 64 := by omega
      subst this
      rw [← hS]
      obtain ⟨a, b1, c, d, e, f, g, h⟩ := s
      dsimp only
      (conv => whnf)
      obtain ⟨L, hL⟩ : ∃ L, L = [s0, s1, s2, s3, s4, s5, s6, s7] := ⟨_, rfl⟩
      obtain ⟨V, hV⟩ : ∃ V, V = [a, b1, c, d, e, f, g, h] := ⟨_, rfl⟩
      have hLl : L.length = 8 := by rw [hL]; rfl
      have hVl : V.length = 8 := by rw [hV]; rfl
      refine ⟨LG (fun i : Nat => i ≤ 8) (fun i => 8 - i) (fun i => AS.of [(2, .one (.ptr 32 0)), (4, .one (.ptr 64 0)), (10, .one (.ptr 160 0)), (161, .one (.lit (.int .i64 (i : Nat))))] [(32, .var (((addW L V).take i ++ L.drop i).map eV)), (64, .var zero8), (160, .var (V.map eV))]),
        lg_init 0 (by omega) (weak_of allsA (all_cons (eq_var rfl (by rw [hL]; rfl)) (all_cons rfl (all_cons (eq_var rfl (by rw [hV]; rfl)) all_nil))) rfl (by repeat (first | exact onm_nil | refine onm_cons (by first | rfl | exact var_only _) ?_))), ?_⟩
      have hAl : (addW L V).length = 8 := by simp [addW, hLl, hVl]
      rintro σ k ⟨i, hi, rfl, rfl⟩
      have hxl : ((addW L V).take i ++ L.drop i).length = 8 := by simp [hAl, hLl]; omega
      refine ⟨_, Weak.refl _, ?_⟩
      (conv => whnf)
      (split <;> rename_i h4 <;> (try simp only [decide_eq_true_eq, decide_eq_false_iff_not, Bool.not_eq_true', Bool.not_eq_false', Bool.not_eq_true, Bool.not_eq_false, List.length_map] at h4) <;> conv => whnf)
      · have hi8 : i < 8 := by omega
        have hg1 := get_step (A := addW L V) (L := L) (i := i) (by omega) (by omega)
        have hsx := set_step (A := addW L V) (L := L) (i := i) (x := L[i]'(by omega) + V[i]'(by omega)) (by omega) (by omega) (by simp [addW])
        have g1 := get_map (l := (addW L V).take i ++ L.drop i) (i := i) (by omega)
        have g2 := get_map (l := V) (i := i) (by omega)
        rw [hg1] at g1
        rw [getD_at (by omega)] at g2
        refine ⟨i, rfl, hi8, ?_⟩; (conv => whnf)
        (refine dec_ok (mk1c g1) ?_; rw [mk1 g1]; conv => whnf)
        refine ⟨i, rfl, hi8, ?_⟩; (conv => whnf)
        (refine dec_ok (mk1c g2) ?_; rw [mk1 g2]; conv => whnf)
        refine ⟨_, (u32_add _ _).symm, ?_⟩; (conv => whnf)
        refine ⟨i, rfl, hi8, ?_⟩; (conv => whnf)
        refine dec_ok (by rw [List.length_map]; omega) ?_; (conv => whnf)
        (refine ⟨((i + 1 : Nat) : Int), by rw [← wrap64_id] <;> omega, ?_⟩; conv => whnf)
        exact lg_back (i + 1) (by omega) (by (try dsimp only); omega) (weak_of allsA (all_cons (eq_var rfl (by rw [splice_one (v := L[i]'(by omega) + V[i]'(by omega)) (by omega) rfl, hsx])) (all_cons rfl (all_cons rfl all_nil))) rfl (by repeat (first | exact onm_nil | refine onm_cons (by first | rfl | exact var_only _) ?_)))
      · have : i = 8 := by omega
        subst this
        have he : (addW L V).take 8 ++ L.drop 8 = addW L V := by rw [List.take_of_length_le (by omega), List.drop_eq_nil_of_le (by omega), List.append_nil]
        rw [he]
        subst hL hV
        (conv => whnf)
        exact ⟨close_int rfl, close_int rfl, close_int rfl, close_int rfl, close_int rfl, close_int rfl, close_int rfl, close_int rfl, trivial⟩
end Go.Proofs.YthdejoipdgahiaaGreatDoor
namespace Go.Proofs.YthdejoipdgahiaaGreatDoor
open Go.RowKit
set_option linter.unusedSimpArgs false
set_option linter.unusedVariables false
set_option maxRecDepth 100000
set_option maxHeartbeats 8000000
theorem eN_nb (l : List UInt32) : (AV.row true 1 (l.map eN)).nb 5 = true := by show AV.nb (4 + 1) _ = true; exact nb_map (n := 4) (fun y => rfl) _
theorem DHash.enc_nb (h : DHash) : h.enc.all (AV.nb 5) = true := by
  simp only [DHash.enc, List.all_cons, List.all_nil, Bool.and_true, Bool.and_eq_true]
  exact ⟨eN_nb _, rfl, rfl⟩
theorem l05More_c (h : DHash) (hs : h.state.length = 8) (hsz : 0 ≤ h.size ∧ h.size ≤ 4611686018427387904) (hr : h.rest.size ≤ 4611686018427387904) (t : ByteArray) (ht : t.size ≤ 2305843009213693952) :
    Fun1 Tryz.prog 119 [.agg h.enc, .one (.lit (.string t))] (.agg (moreF h t).enc) := by
  refine fun1_of_vc (E := tbO119) (tbF_ok _) mix (fn := Tryz.f119) Tryz.func119 rfl (by kernel_rfl) (by kernel_rfl) (by simp [Tryz.f119]) (by exact DHash.enc_nb _) ?_
  (conv => whnf)
  refine ⟨true, _, ⟨rfl, rfl, rfl⟩, ?_⟩; (conv => whnf)
  refine ⟨_, laid_map (f := eN) (fun _ => rfl) h.state, rfl, rfl, rfl, by simp [maxLen, chunk]; omega, by simp [chunk]; omega, ?_⟩; (conv => whnf)
  refine ⟨by omega, ?_⟩; (conv => whnf)
  refine ⟨h.size + (t.size : Int), by rw [← wrap64_id] <;> omega, ?_⟩; (conv => whnf)
  obtain ⟨X, hX⟩ : ∃ X, h.rest ++ t = X := ⟨_, rfl⟩
  have hXs : X.size = h.rest.size + t.size := by rw [← hX]; simp
  have hmore : moreF h t = ⟨blocksN h.state X (X.size / 64), X.extract (64 * (X.size / 64)) X.size, h.size + (t.size : Int)⟩ := by unfold moreF; rw [hX]
  rw [hmore]
  simp only [hX]
  refine ⟨LG (fun n : Nat => n ≤ X.size / 64) (fun n => X.size / 64 - n) (fun n => AS.of [(4, .one (.ptr 64 0)), (5, .one (.ptr 80 0)), (6, .one (.lit (.int .i64 ((64 * n : Nat) : Int))))]
    [(64, .var [.lit (.slice none 0 0), .lit (.string .empty), .lit (.int .i64 0)]), (80, .var [.loc 112 0 8, .lit (.string X), .lit (.int .i64 (h.size + (t.size : Int)))]), (112, .row true 1 ((blocksN h.state X n).map eN))]), lg_init 0 (by omega) (weak_of allsA (all_cons rfl (all_cons (eq_var rfl (by simp [chunk, hs, AV.bor, siteOf])) (all_cons rfl all_nil))) rfl rfl), ?_⟩
  rintro σ k ⟨n, hn, rfl, rfl⟩
  have hbl := blocksN_len hs X n
  refine ⟨_, Weak.refl _, ?_⟩
  (conv => whnf)
  refine ⟨(X.size : Int) - ((64 * n : Nat) : Int), by rw [← wrap64_id] <;> omega, ?_⟩; (conv => whnf)
  (split <;> rename_i h1 <;> (try simp only [decide_eq_true_eq, decide_eq_false_iff_not, Bool.not_eq_true', Bool.not_eq_false', Bool.not_eq_true, Bool.not_eq_false, List.length_map] at h1) <;> conv => whnf)
  · have hlt : n < X.size / 64 := by omega
    refine ⟨((64 * n + 64 : Nat) : Int), by rw [← wrap64_id] <;> omega, ?_⟩; (conv => whnf)
    refine ⟨by show (0 : Int) ≤ ((64 * n : Nat) : Int); omega, by show ((64 * n : Nat) : Int) ≤ ((64 * n + 64 : Nat) : Int); omega, by show ((64 * n + 64 : Nat) : Int) ≤ (X.size : Int); omega, X.extract (64 * n) (64 * n + 64), rfl, ?_⟩; (conv => whnf)
    refine ⟨_, _, l05Block_c (blocksN h.state X n) hbl (X.extract (64 * n) (64 * n + 64)) (by rw [ByteArray.size_extract]; omega), lends_cons (lend_one (la_loc rfl rfl rfl (by simp [hbl]) (by simp [hbl]))) (lends_cons (lend_one (la_lit rfl)) lends_nil), ?_⟩; (conv => whnf)
    refine ⟨((64 * (n + 1) : Nat) : Int), by rw [← wrap64_id] <;> omega, ?_⟩; (conv => whnf)
    exact lg_back (n + 1) (by omega) (by (try dsimp only); omega) (weak_swap 112 592 (weak_of allsA (all_cons rfl (all_cons (eq_var rfl (by simp [openAV, block_len hbl, AV.ren, swp, siteOf])) (all_cons rfl all_nil))) rfl rfl))
  · have : n = X.size / 64 := by omega
    subst this
    refine ⟨by show (0 : Int) ≤ ((64 * (X.size / 64) : Nat) : Int); omega, by show ((64 * (X.size / 64) : Nat) : Int) ≤ (X.size : Int); omega, by show (X.size : Int) ≤ (X.size : Int); omega, X.extract (64 * (X.size / 64)) X.size, by congr 1, ?_⟩; (conv => whnf)
    exact ⟨close_row rfl rfl (by simp [hbl]) rfl, close_str rfl, close_int rfl, trivial⟩
end Go.Proofs.YthdejoipdgahiaaGreatDoor
namespace Go.Proofs.YthdejoipdgahiaaGreatDoor
open Go.RowKit
set_option linter.unusedSimpArgs false
set_option linter.unusedVariables false
set_option maxRecDepth 100000
set_option maxHeartbeats 8000000
theorem u8_nat (n : Nat) : IntKind.u8.wrap (n : Int) = ((UInt8.ofNat n).toNat : Int) := by
  rw [IntKind.wrap_u8, UInt8.toNat_ofNat']; omega
theorem shr_nat (n k : Nat) : (n : Int).fdiv (2 ^ k) = ((n >>> k : Nat) : Int) := by
  rw [Nat.shiftRight_eq_div_pow, pow2_cast, Int.fdiv_eq_ediv_of_nonneg _ (Int.natCast_nonneg _)]
  exact (Int.natCast_ediv _ _).symm
theorem zerosL_len (n : Nat) : (zerosL n).length = n := by simp [zerosL]
theorem zerosL_succ (n : Nat) : zerosL (n + 1) = zerosL n ++ [0] := by simp [zerosL, List.replicate_succ']
theorem be64_take {n i : Nat} (h : i < 8) : (be64 n).take (i + 1) = (be64 n).take i ++ [UInt8.ofNat (n >>> (56 - 8 * i))] := by
  match i, h with
  | 0, _ => rfl
  | 1, _ => rfl
  | 2, _ => rfl
  | 3, _ => rfl
  | 4, _ => rfl
  | 5, _ => rfl
  | 6, _ => rfl
  | 7, _ => rfl
  | i + 8, h => omega
theorem be64_len (n : Nat) : (be64 n).length = 8 := rfl
structure DHash.good (h : DHash) : Prop where
  st : h.state.length = 8
  s0 : 0 ≤ h.size
  s1 : h.size ≤ 1099511627776
  r : (h.rest.size : Int) = h.size % 64
theorem padL_len (r n : Nat) : (padL r n).length = 9 + (119 - r) % 64 := by simp [padL, zerosL_len, be64_len]; omega
theorem outL_len (l : List UInt32) : (outL l).length = 4 * l.length := by
  unfold outL
  rw [flat_len _ 4 (fun x hx => by obtain ⟨w, _, rfl⟩ := List.mem_map.1 hx; rfl), List.length_map]
theorem outL_succ {l : List UInt32} {i : Nat} (h : i < l.length) : outL (l.take (i + 1)) = outL (l.take i) ++ wordB l[i] := by
  unfold outL
  rw [List.take_succ_eq_append_getElem h, List.map_append, List.flatten_append]; simp
theorem l05End_c (h : DHash) (hg : h.good) : Fun1 Tryz.prog 118 [.agg h.enc] (.one (.lit (.string (endF h)))) := by
  obtain ⟨hs, h0, h1, hr⟩ := hg
  refine fun1_of_vc tb_ok mix (fn := Tryz.f118) Tryz.func118 rfl (by kernel_rfl) (by kernel_rfl) (by simp [Tryz.f118]) (by rfl) ?_
  (conv => whnf)
  obtain ⟨S, hS⟩ : ∃ S : Nat, h.size = S := ⟨h.size.toNat, by omega⟩
  have hr' : h.rest.size = S % 64 := by omega
  obtain ⟨Z, hZ⟩ : ∃ Z, (119 - h.rest.size) % 64 = Z := ⟨_, rfl⟩
  refine ⟨LG (fun j : Nat => j ≤ Z) (fun j => Z - j) (fun j => AS.of [(1, .one (.ptr 16 0)), (2, .one (.lit (.string .empty))), (3, .one (.loc 160 0 (j + 1)))] [(16, .var h.enc), (160, .row true 1 ((128 :: zerosL j).map byteE))]), lg_init 0 (by omega) (weak_of allsA allsA rfl rfl), ?_⟩
  rintro σ k ⟨j, hj, rfl, rfl⟩
  refine ⟨_, Weak.refl _, ?_⟩
  (conv => whnf)
  refine ⟨((S + (j + 1) : Nat) : Int), by rw [← wrap64_id] <;> omega, ?_⟩; (conv => whnf)
  refine ⟨by decide, (((S + (j + 1)) % 64 : Nat) : Int), by rw [Int.ofNat_tmod]; rfl, ?_⟩; (conv => whnf)
  (split <;> rename_i h2 <;> (try simp only [decide_eq_true_eq, decide_eq_false_iff_not, Bool.not_eq_true', Bool.not_eq_false', Bool.not_eq_true, Bool.not_eq_false, List.length_map] at h2) <;> conv => whnf)
  · have hlt : j < Z := by omega
    refine ⟨true, [byteE 0], ⟨rfl, by simp [chunk], rfl, by simp [chunk]; rfl⟩, ?_⟩; (conv => whnf)
    refine ⟨[byteE 0], laid_map (f := byteE) (fun _ => rfl) [0], rfl, by simp [chunk, zerosL_len], rfl, by simp [maxLen, chunk, zerosL_len]; omega, by simp [chunk, zerosL_len]; omega, ?_⟩; (conv => whnf)
    exact lg_back (j + 1) (by omega) (by (try dsimp only); omega) (weak_of (all_cons rfl (all_cons rfl (all_cons (eq_loc rfl (by simp [chunk, zerosL_len])) all_nil))) (all_cons rfl (all_cons (eq_row rfl (by rw [zerosL_succ]; simp [chunk])) all_nil)) rfl rfl)
  · have : j = Z := by omega
    subst this
    refine ⟨((8 * S : Nat) : Int), by rw [← wrap64_id] <;> omega, ?_⟩; (conv => whnf)
    refine ⟨((8 * S : Nat) : Int), by rw [IntKind.wrap_u64]; omega, ?_⟩; (conv => whnf)
    have hpl : ∀ i, i ≤ 8 → (128 :: zerosL j ++ (be64 (8 * S)).take i).length = 1 + j + i := fun i hi => by simp [zerosL_len, be64_len]; omega
    refine ⟨LG (fun i : Nat => i ≤ 8) (fun i => 8 - i) (fun i => AS.of [(1, .one (.ptr 16 0)), (2, .one (.lit (.string .empty))), (3, .one (.loc 160 0 (1 + j + i))), (4, .one (.lit (.int .u64 ((8 * S : Nat) : Int)))), (5, .one (.lit (.int .i64 (56 - 8 * (i : Int)))))]
      [(16, .var h.enc), (160, .row true 1 ((128 :: zerosL j ++ (be64 (8 * S)).take i).map byteE))]), lg_init 0 (by omega) (weak_of (all_cons rfl (all_cons rfl (all_cons (eq_loc rfl (by omega)) (all_cons rfl (all_cons rfl all_nil))))) (all_cons rfl (all_cons (eq_row rfl (by simp)) all_nil)) rfl rfl), ?_⟩
    rintro σ k ⟨i, hi, rfl, rfl⟩
    have hp := hpl i hi
    refine ⟨_, Weak.refl _, ?_⟩
    (conv => whnf)
    (split <;> rename_i h3 <;> (try simp only [decide_eq_true_eq, decide_eq_false_iff_not, Bool.not_eq_true', Bool.not_eq_false', Bool.not_eq_true, Bool.not_eq_false, List.length_map] at h3) <;> conv => whnf)
    · have hlt : i < 8 := by omega
      refine ⟨((56 - 8 * i : Nat) : Int), by rw [IntKind.wrap_u64]; omega, ?_⟩; (conv => whnf)
      refine ⟨by omega, (((8 * S) >>> (56 - 8 * i) : Nat) : Int), by rw [← shr_nat]; congr 2; show 56 - 8 * i = min (((56 - 8 * i : Nat) : Int).toNat) 64; omega, ?_⟩; (conv => whnf)
      refine ⟨_, (u8_nat _).symm, ?_⟩; (conv => whnf)
      refine ⟨true, [byteE (UInt8.ofNat ((8 * S) >>> (56 - 8 * i)))], ⟨rfl, by simp [chunk], rfl, by simp [chunk]; rfl⟩, ?_⟩; (conv => whnf)
      refine ⟨[byteE (UInt8.ofNat ((8 * S) >>> (56 - 8 * i)))], laid_map (f := byteE) (fun _ => rfl) [UInt8.ofNat ((8 * S) >>> (56 - 8 * i))], rfl, by rw [List.length_map, hp], rfl, by rw [List.length_map, hp]; simp [maxLen, chunk]; omega, by rw [List.length_map, hp]; simp [chunk]; omega, ?_⟩; (conv => whnf)
      refine ⟨56 - 8 * ((i + 1 : Nat) : Int), by rw [← wrap64_id] <;> omega, ?_⟩; (conv => whnf)
      exact lg_back (i + 1) (by omega) (by (try dsimp only); omega) (weak_of (all_cons rfl (all_cons rfl (all_cons (eq_loc rfl (by rw [List.length_map, hp]; simp [chunk]; omega)) (all_cons rfl (all_cons rfl all_nil))))) (all_cons rfl (all_cons (eq_row rfl (by rw [be64_take hlt, ← List.append_assoc, List.map_append]; simp [chunk])) all_nil)) rfl rfl)
    · have : i = 8 := by omega
      subst this
      have hpad : (128 :: zerosL j ++ (be64 (8 * S)).take 8) = padL h.rest.size h.size.toNat := by
        rw [List.take_of_length_le (by rw [be64_len]; omega), padL, hZ, hS]; rfl
      have hN : h.size.toNat = S := by omega
      refine ⟨true, _, padL h.rest.size h.size.toNat, ⟨rfl, by rw [List.length_map, hp]; omega, rfl, rfl⟩, by rw [hpad]; exact List.take_of_length_le (by rw [← hpad, List.length_drop, List.length_map, hp]; omega), ?_⟩; (conv => whnf)
      obtain ⟨x, hx⟩ : ∃ x, moreF h (bytesOf (padL h.rest.size h.size.toNat)) = x := ⟨_, rfl⟩
      have hxs : x.state.length = 8 := by rw [← hx]; exact blocksN_len hs _ _
      have cM := l05More_c h hs (by omega) (by omega) (bytesOf (padL h.rest.size h.size.toNat)) (by show (padL h.rest.size h.size.toNat).length ≤ _; rw [padL_len]; omega)
      rw [hx] at cM
      have hend : endF h = bytesOf (outL x.state) := by unfold endF; rw [hx]
      rw [hend]
      refine ⟨_, _, cM, lendA, ?_⟩; (conv => whnf)
      refine ⟨LG (fun i : Nat => i ≤ 8) (fun i => 8 - i) (fun i => AS.of [(2, .one (.lit (.string .empty))), (6, .one (.ptr 96 0)), (7, .one (.loc 656 0 (4 * i))), (8, .one (.lit (.int .i64 (i : Nat))))]
        [(96, .var [.loc 640 0 8, .lit (.string x.rest), .lit (.int .i64 x.size)]), (640, .row true 1 (x.state.map eN)), (656, .row true 1 ((outL (x.state.take i)).map byteE))]), lg_init 0 (by omega) (weak_of allsA (all_cons (eq_var rfl (by simp [openL, openAV, hxs, siteOf, DHash.enc])) (all_cons rfl (all_cons rfl all_nil))) rfl rfl), ?_⟩
      rintro σ k ⟨i, hi, rfl, rfl⟩
      have hol : (outL (x.state.take i)).length = 4 * i := by rw [outL_len, List.length_take]; omega
      refine ⟨_, Weak.refl _, ?_⟩
      (conv => whnf)
      (split <;> rename_i h4 <;> (try simp only [decide_eq_true_eq, decide_eq_false_iff_not, Bool.not_eq_true', Bool.not_eq_false', Bool.not_eq_true, Bool.not_eq_false, List.length_map] at h4) <;> conv => whnf)
      · have hlt : i < x.state.length := by omega
        have hsx := outL_succ hlt
        refine ⟨i, rfl, by omega, ?_⟩; (conv => whnf)
        refine ⟨_, at_map0 hlt, ?_⟩; (conv => whnf)
        refine ⟨by decide, _, (shr_nat _ 24).symm, ?_⟩; (conv => whnf)
        refine ⟨_, (u8_nat _).symm, ?_⟩; (conv => whnf)
        refine ⟨by decide, _, (shr_nat _ 16).symm, ?_⟩; (conv => whnf)
        refine ⟨_, (u8_nat _).symm, ?_⟩; (conv => whnf)
        refine ⟨by decide, _, (shr_nat _ 8).symm, ?_⟩; (conv => whnf)
        refine ⟨_, (u8_nat _).symm, ?_⟩; (conv => whnf)
        refine ⟨_, (u8_nat _).symm, ?_⟩; (conv => whnf)
        refine ⟨true, (wordB x.state[i]).map byteE, ⟨rfl, by simp [chunk], rfl, rfl⟩, ?_⟩; (conv => whnf)
        refine ⟨(wordB x.state[i]).map byteE, laid_map (f := byteE) (fun _ => rfl) _, rfl, by rw [List.length_map, hol], rfl, by rw [List.length_map, hol]; simp [maxLen, wordB]; omega, by rw [List.length_map, hol]; simp [wordB]; omega, ?_⟩; (conv => whnf)
        (refine ⟨((i + 1 : Nat) : Int), by rw [← wrap64_id] <;> omega, ?_⟩; conv => whnf)
        exact lg_back (i + 1) (by omega) (by (try dsimp only); omega) (weak_of (all_cons rfl (all_cons rfl (all_cons (eq_loc rfl (by rw [List.length_map, hol]; simp [wordB]; omega)) (all_cons rfl all_nil)))) (all_cons rfl (all_cons rfl (all_cons (eq_row rfl (by rw [hsx, List.map_append])) all_nil))) rfl rfl)
      · have : i = 8 := by omega
        subst this
        refine ⟨true, _, outL x.state, ⟨rfl, by rw [List.length_map, hol]; omega, rfl, rfl⟩, by rw [List.take_of_length_le (show x.state.length ≤ 8 by omega)]; exact List.take_of_length_le (by rw [List.drop_zero, List.length_map, outL_len]; omega), ?_⟩; (conv => whnf)
        exact ⟨close_str rfl, trivial⟩
theorem good0 : (⟨startL, .empty, 0⟩ : DHash).good := ⟨rfl, by decide, by decide, by decide⟩
theorem more_good {h : DHash} (hg : h.good) {t : ByteArray} (ht : h.size + t.size ≤ 1099511627776) : (moreF h t).good := by
  obtain ⟨hs, h0, h1, hr⟩ := hg
  refine ⟨blocksN_len hs _ _, by show 0 ≤ h.size + (t.size : Int); omega, ht, ?_⟩
  show (((h.rest ++ t).extract _ _).size : Int) = (h.size + (t.size : Int)) % 64
  rw [ByteArray.size_extract, ByteArray.size_append]
  omega
theorem digestSpec_c (t : ByteArray) (ht : t.size ≤ 4294967296) : Fun1 Tryz.prog 77 [.one (.lit (.string t))] (.one (.lit (.string (if t.size ≤ 20000 then digF t else .empty)))) := by
  refine fun1_of_vc tb_ok mix (fn := Tryz.f77) Tryz.func77 rfl (by kernel_rfl) (by kernel_rfl) (by simp [Tryz.f77]) (by rfl) ?_
  (conv => whnf)
  (split <;> rename_i h <;> (try simp only [decide_eq_true_eq, decide_eq_false_iff_not, Bool.not_eq_true', Bool.not_eq_false', Bool.not_eq_true, Bool.not_eq_false, List.length_map] at h) <;> conv => whnf)
  · exact ⟨close_str (by rw [if_neg (by omega)]; rfl), trivial⟩
  · refine ⟨_, _, hashBegin_c, lendA, ?_⟩; (conv => whnf)
    refine ⟨_, _, l05More_c ⟨startL, .empty, 0⟩ rfl (by decide) (by decide) t (by omega), lendA, ?_⟩; (conv => whnf)
    refine ⟨_, _, l05End_c (moreF ⟨startL, .empty, 0⟩ t) (more_good good0 (by show (0 : Int) + (t.size : Int) ≤ 1099511627776; omega)), lendA, ?_⟩; (conv => whnf)
    exact ⟨close_str (by rw [if_pos (by omega)]; rfl), trivial⟩
end Go.Proofs.YthdejoipdgahiaaGreatDoor
namespace Go.Proofs.YthdejoipdgahiaaGreatDoor
open Go.RowKit
set_option linter.unusedSimpArgs false
set_option linter.unusedVariables false
set_option maxRecDepth 100000
set_option maxHeartbeats 8000000
def S8.cells (s : S8) : List AV := [eV s.a, eV s.b, eV s.c, eV s.d, eV s.e, eV s.f, eV s.g, eV s.h]
def blkS (s : S8) (t : ByteArray) : S8 := S8.of (block s.list t)
theorem of_list {l : List UInt32} (h : l.length = 8) : (S8.of l).list = l := by
  match l, h with
  | [a, b, c, d, e, f, g, h], _ => rfl
theorem blkS_list (s : S8) (t : ByteArray) : (blkS s t).list = block s.list t := of_list (block_len rfl t)
theorem list_cells (s : S8) : s.list.map eV = s.cells := rfl
def blkN (s : S8) (t : ByteArray) : Nat → S8
  | 0 => s
  | n + 1 => blkS (blkN s t n) (t.extract (64 * n) (64 * n + 64))
theorem blkN_list (s : S8) (t : ByteArray) : ∀ n, (blkN s t n).list = blocksN s.list t n
  | 0 => rfl
  | n + 1 => by rw [blkN, blkS_list, blkN_list s t n]; rfl
theorem taken8_c (s : S8) (b : ByteArray) (hb : b.size = 64) : Fun1 Tryz.prog 105 [.agg s.cells, .one (.lit (.string b))] (.agg (blkS s b).cells) := by
  have := taken_c s.a s.b s.c s.d s.e s.f s.g s.h b hb
  rw [show [s.a, s.b, s.c, s.d, s.e, s.f, s.g, s.h] = s.list from rfl, ← blkS_list] at this
  exact this
theorem oneByte_c (x : UInt8) : Fun1 Tryz.prog 144 [.one (.lit (.int .u8 (x.toNat : Int)))] (.one (.lit (.string (bytesOf [x])))) := by
  refine fun1_of_vc tb_ok mix (fn := Tryz.f144) Tryz.func144 rfl (by kernel_rfl) (by kernel_rfl) (by simp [Tryz.f144]) (by rfl) ?_
  (conv => whnf)
  refine ⟨true, _, [x], ⟨rfl, by simp [chunk], rfl, rfl⟩, rfl, ?_⟩; (conv => whnf)
  exact ⟨close_str rfl, trivial⟩
theorem ext_ext (t : ByteArray) {a b c : Nat} (h : a + c ≤ b) : (t.extract a b).extract 0 c = t.extract a (a + c) := by
  apply ByteArray.ext; apply Array.ext'
  rw [Lib.extract_data, Lib.extract_data, Lib.extract_data]
  simp only [List.drop_zero, Nat.sub_zero, List.take_take]
  congr 1; omega
theorem ext_drop (t : ByteArray) {a b c : Nat} : (t.extract a b).extract c (t.extract a b).size = t.extract (a + c) b := by
  apply ByteArray.ext; apply Array.ext'
  have hs : (t.extract a b).size = ((t.data.toList.drop a).take (b - a)).length := by rw [Lib.size_eq, Lib.extract_data]
  rw [Lib.extract_data, hs, Lib.extract_data, Lib.extract_data, List.take_of_length_le (by rw [List.length_drop]; exact Nat.le_refl _), List.drop_take, List.drop_drop]
  congr 1; omega
theorem ext_size (t : ByteArray) {a b : Nat} (h : b ≤ t.size) : (t.extract a b).size = b - a := by rw [ByteArray.size_extract]; omega
theorem bytes_app (l m : List UInt8) : bytesOf l ++ bytesOf m = bytesOf (l ++ m) := by apply ByteArray.ext; apply Array.ext'; simp [bytesOf]
theorem bytes_of (t : ByteArray) : bytesOf t.data.toList = t := by apply ByteArray.ext; apply Array.ext'; simp [bytesOf]
theorem bytes_size (l : List UInt8) : (bytesOf l).size = l.length := rfl
def endL (rest : ByteArray) (n : Nat) : List UInt8 := rest.data.toList ++ padL rest.size n
theorem endL_len (rest : ByteArray) (n : Nat) : (endL rest n).length = rest.size + (9 + (119 - rest.size) % 64) := by
  unfold endL; rw [List.length_append, padL_len]; simp
theorem summed_c (s : S8) (rest : ByteArray) (n : Nat) (hr : rest.size < 64) (hn : n ≤ 1099511627776) (K : Nat) (hK : (endL rest n).length = 64 * K) :
    Fun1 Tryz.prog 106 [.agg s.cells, .one (.lit (.string rest)), .one (vN n)] (.one (.lit (.string (bytesOf (outL (blkN s (bytesOf (endL rest n)) K).list))))) := by
  have hel := endL_len rest n
  refine fun1_of_vc tb_ok mix (fn := Tryz.f106) Tryz.func106 rfl (by kernel_rfl) (by kernel_rfl) (by simp [Tryz.f106]) (by rfl) ?_
  (conv => whnf)
  refine ⟨by rw [show (ByteArray.mk #[128]).size = 1 from rfl]; omega, ?_⟩; (conv => whnf)
  have hz1 : (rest ++ ByteArray.mk #[128]).size = rest.size + 1 := by rw [ByteArray.size_append]; rfl
  refine ⟨((119 - rest.size : Nat) : Int), by rw [hz1, ← wrap64_id] <;> omega, ?_⟩; (conv => whnf)
  refine ⟨by decide, (((119 - rest.size) % 64 : Nat) : Int), rfl, ?_⟩; (conv => whnf)
  refine ⟨_, _, repeatZ_c ((119 - rest.size) % 64) (by omega), lendA, ?_⟩; (conv => whnf)
  refine ⟨by rw [hz1]; show _ + (List.replicate _ _).length ≤ _; rw [List.length_replicate]; omega, ?_⟩
  obtain ⟨B, hB⟩ : ∃ B, rest.data.toList ++ 128 :: zerosL ((119 - rest.size) % 64) = B := ⟨_, rfl⟩
  have hBe : endL rest n = B ++ be64 (8 * n) := by rw [← hB]; simp [endL, padL]
  have hB1 : rest ++ ByteArray.mk #[128] ++ txtOf (List.replicate ((119 - rest.size) % 64) 0) = bytesOf B := by
    rw [← hB]; apply ByteArray.ext; apply Array.ext'; simp [bytesOf, txtOf, zerosL]
  have hBl : B.length = rest.size + 1 + (119 - rest.size) % 64 := by rw [← hB]; simp [zerosL_len]; omega
  rw [hB1]
  (conv => whnf)
  refine ⟨LG (fun j : Nat => j ≤ 8) (fun j => 8 - j) (fun j => AS.of [(1, .one (.lit (.string (bytesOf (B ++ (be64 (8 * n)).take j))))), (2, .one (vN n)), (3, .one (.ptr 48 0)), (7, .one (.lit (.int .i64 (7 - (j : Int)))))] [(48, .var s.cells)]),
    lg_init 0 (by omega) (weak_of (all_cons (eq_str rfl (by simp)) (all_cons rfl (all_cons rfl (all_cons rfl all_nil)))) allsA rfl rfl), ?_⟩
  rintro σ k ⟨j, hj, rfl, rfl⟩
  refine ⟨_, Weak.refl _, ?_⟩
  (conv => whnf)
  (split <;> rename_i h <;> (try simp only [decide_eq_true_eq, decide_eq_false_iff_not, Bool.not_eq_true', Bool.not_eq_false', Bool.not_eq_true, Bool.not_eq_false, List.length_map] at h) <;> conv => whnf)
  · have hlt : j < 8 := by omega
    refine ⟨((8 * n : Nat) : Int), by rw [show (n : Int) * 8 = ((8 * n : Nat) : Int) by omega]; exact (wrapN (by omega)).symm, ?_⟩; (conv => whnf)
    refine ⟨((8 * (7 - j) : Nat) : Int), by rw [← wrap64_id] <;> omega, ?_⟩; (conv => whnf)
    refine ⟨by omega, (((8 * n) >>> (8 * (7 - j)) : Nat) : Int), by rw [← shr_nat]; congr 2; show 8 * (7 - j) = min (((8 * (7 - j) : Nat) : Int).toNat) 64; omega, ?_⟩; (conv => whnf)
    refine ⟨_, (u8_nat _).symm, ?_⟩; (conv => whnf)
    refine ⟨_, _, oneByte_c (UInt8.ofNat ((8 * n) >>> (8 * (7 - j)))), lendA, ?_⟩; (conv => whnf)
    refine ⟨by rw [bytes_size, bytes_size, List.length_append, List.length_take, be64_len, List.length_singleton]; omega, ?_⟩; (conv => whnf)
    refine ⟨7 - ((j + 1 : Nat) : Int), by rw [← wrap64_id] <;> omega, ?_⟩; (conv => whnf)
    exact lg_back (j + 1) (by omega) (by (try dsimp only); omega) (weak_of (all_cons (eq_str rfl (by rw [bytes_app, be64_take hlt, show 56 - 8 * j = 8 * (7 - j) by omega, List.append_assoc])) (all_cons rfl (all_cons rfl (all_cons rfl all_nil)))) allsA rfl rfl)
  · have : j = 8 := by omega
    subst this
    have hX : bytesOf (B ++ (be64 (8 * n)).take 8) = bytesOf (endL rest n) := by rw [hBe, List.take_of_length_le (by rw [be64_len]; exact Nat.le_refl _)]
    obtain ⟨X, hXX⟩ : ∃ X, bytesOf (endL rest n) = X := ⟨_, rfl⟩
    have hXs : X.size = 64 * K := by rw [← hXX, bytes_size, hK]
    have hX0 : X.extract (64 * 0) X.size = X := by rw [Nat.mul_zero]; exact ByteArray.extract_zero_size
    rw [hXX]
    refine ⟨LG (fun q : Nat => q ≤ K) (fun q => K - q) (fun q => AS.of [(1, .one (.lit (.string (X.extract (64 * q) X.size)))), (3, .one (.ptr 48 0))] [(48, .var (blkN s X q).cells)]),
      lg_init 0 (by omega) (weak_of (all_cons (eq_str rfl (by rw [hX, hXX, hX0])) (all_cons rfl all_nil)) allsA rfl rfl), ?_⟩
    rintro σ k ⟨q, hq, rfl, rfl⟩
    have hes : (X.extract (64 * q) X.size).size = 64 * K - 64 * q := by rw [ext_size X (Nat.le_refl _), hXs]
    refine ⟨_, Weak.refl _, ?_⟩
    (conv => whnf)
    (split <;> rename_i h2 <;> (try simp only [decide_eq_true_eq, decide_eq_false_iff_not, Bool.not_eq_true', Bool.not_eq_false', Bool.not_eq_true, Bool.not_eq_false, List.length_map] at h2) <;> conv => whnf)
    · have hlt : q < K := by
        rcases Nat.lt_or_ge q K with h3 | h3
        · exact h3
        · exfalso
          apply h2
          apply ByteArray.ext; apply Array.ext'
          have : (X.extract (64 * q) X.size).data.toList.length = 0 := by rw [← Lib.size_eq, hes]; omega
          rw [List.eq_nil_of_length_eq_zero this]
      have hblk : (X.extract (64 * q) X.size).extract 0 64 = X.extract (64 * q) (64 * q + 64) := ext_ext X (by omega)
      refine ⟨by decide, by show (0 : Int) ≤ 64; decide, by simp only [Option.getD]; omega, X.extract (64 * q) (64 * q + 64), hblk.symm, ?_⟩; (conv => whnf)
      refine ⟨_, _, taken8_c (blkN s X q) (X.extract (64 * q) (64 * q + 64)) (by rw [ext_size X (by omega)]; omega), lendA, ?_⟩; (conv => whnf)
      refine ⟨by decide, by simp only [Option.getD]; omega, by simp only [Option.getD]; omega, X.extract (64 * (q + 1)) X.size, ?_, ?_⟩
      · show _ = (X.extract (64 * q) X.size).extract 64 (X.extract (64 * q) X.size).size
        rw [ext_drop]; rfl
      (conv => whnf)
      exact lg_back (q + 1) (by omega) (by (try dsimp only); omega) (weak_of allsA allsA rfl rfl)
    · have : q = K := by
        rcases Nat.lt_or_ge q K with h3 | h3
        · exfalso
          have : (X.extract (64 * q) X.size).size = 0 := by rw [h2]; rfl
          omega
        · omega
      subst this
      obtain ⟨R, hR⟩ : ∃ R, blkN s X q = R := ⟨_, rfl⟩
      rw [hR]
      have hRl : R.list.length = 8 := rfl
      refine ⟨LG (fun i : Nat => i ≤ 8) (fun i => 8 - i) (fun i => AS.of [(8, .one (.loc 928 0 (4 * i))), (41, .agg R.cells), (42, .one (.lit (.int .i64 (i : Nat))))] [(928, .row true 1 ((outL (R.list.take i)).map byteE))]),
        lg_init 0 (by omega) (weak_nil 8 928 1 rfl rfl (weak_of (all_cons rfl (all_cons (by rw [← hR]; rfl) (all_cons rfl all_nil))) allsA rfl rfl)), ?_⟩
      rintro σ k ⟨i, hi, rfl, rfl⟩
      have hol : (outL (R.list.take i)).length = 4 * i := by rw [outL_len, List.length_take]; omega
      refine ⟨_, Weak.refl _, ?_⟩
      (conv => whnf)
      (split <;> rename_i h4 <;> (try simp only [decide_eq_true_eq, decide_eq_false_iff_not, Bool.not_eq_true', Bool.not_eq_false', Bool.not_eq_true, Bool.not_eq_false, List.length_map] at h4) <;> conv => whnf)
      · have hlt : i < R.list.length := by omega
        have hsx := outL_succ hlt
        have hg := get_map hlt
        rw [getD_at hlt, list_cells] at hg
        refine ⟨i, rfl, by omega, _, hg, ?_⟩; (conv => whnf)
        refine ⟨by decide, _, (shr_nat _ 24).symm, ?_⟩; (conv => whnf)
        refine ⟨_, (u8_nat _).symm, ?_⟩; (conv => whnf)
        refine ⟨by decide, _, (shr_nat _ 16).symm, ?_⟩; (conv => whnf)
        refine ⟨_, (u8_nat _).symm, ?_⟩; (conv => whnf)
        refine ⟨by decide, _, (shr_nat _ 8).symm, ?_⟩; (conv => whnf)
        refine ⟨_, (u8_nat _).symm, ?_⟩; (conv => whnf)
        refine ⟨_, (u8_nat _).symm, ?_⟩; (conv => whnf)
        refine ⟨true, (wordB R.list[i]).map byteE, ⟨rfl, by simp [chunk], rfl, rfl⟩, ?_⟩; (conv => whnf)
        refine ⟨(wordB R.list[i]).map byteE, laid_map (f := byteE) (fun _ => rfl) _, rfl, by rw [List.length_map, hol], rfl, by rw [List.length_map, hol]; simp [maxLen, wordB]; omega, by rw [List.length_map, hol]; simp [wordB]; omega, ?_⟩; (conv => whnf)
        (refine ⟨((i + 1 : Nat) : Int), by rw [← wrap64_id] <;> omega, ?_⟩; conv => whnf)
        exact lg_back (i + 1) (by omega) (by (try dsimp only); omega) (weak_of (all_cons (eq_loc rfl (by rw [List.length_map, hol]; simp [wordB]; omega)) (all_cons rfl (all_cons rfl all_nil))) (all_cons (eq_row rfl (by rw [hsx, List.map_append])) all_nil) rfl rfl)
      · have : i = 8 := by omega
        subst this
        refine ⟨true, _, outL R.list, ⟨rfl, by rw [List.length_map, hol]; omega, rfl, rfl⟩, by rw [List.take_of_length_le (show R.list.length ≤ 8 by omega)]; exact List.take_of_length_le (by rw [List.drop_zero, List.length_map, outL_len]; omega), ?_⟩; (conv => whnf)
        exact ⟨close_str rfl, trivial⟩
theorem start_cells : [AV.lit (.int .u32 1779033703), .lit (.int .u32 3144134277), .lit (.int .u32 1013904242), .lit (.int .u32 2773480762), .lit (.int .u32 1359893119), .lit (.int .u32 2600822924), .lit (.int .u32 528734635), .lit (.int .u32 1541459225)] = (S8.of startL).cells := by kernel_rfl
theorem digestImpl_c (t : ByteArray) (ht : t.size ≤ 1000000000) : Fun1 Tryz.prog 66 [.one (.lit (.string t))] (.one (.lit (.string (bytesOf (outL (blkN (blkN (S8.of startL) t (t.size / 64)) (bytesOf (endL (t.extract (64 * (t.size / 64)) t.size) t.size)) ((endL (t.extract (64 * (t.size / 64)) t.size) t.size).length / 64)).list))))) := by
  obtain ⟨K, hK⟩ : ∃ K, t.size / 64 = K := ⟨_, rfl⟩
  rw [hK]
  have hes : ∀ q, (t.extract (64 * q) t.size).size = t.size - 64 * q := fun q => ext_size t (Nat.le_refl _)
  have h64 : (endL (t.extract (64 * K) t.size) t.size).length = 64 * ((endL (t.extract (64 * K) t.size) t.size).length / 64) := by
    have h1 := endL_len (t.extract (64 * K) t.size) t.size
    rw [hes] at h1
    have h2 : t.size - 64 * K < 64 := by omega
    generalize (endL (t.extract (64 * K) t.size) t.size).length = z at h1 ⊢
    omega
  have cS := summed_c (blkN (S8.of startL) t K) (t.extract (64 * K) t.size) t.size (by rw [hes]; omega) (by omega) _ h64
  have ht0 : t.extract (64 * 0) t.size = t := by rw [Nat.mul_zero]; exact ByteArray.extract_zero_size
  refine fun1_of_vc tb_ok mix (fn := Tryz.f66) Tryz.func66 rfl (by kernel_rfl) (by kernel_rfl) (by simp [Tryz.f66]) (by rfl) ?_
  (conv => whnf)
  refine ⟨LG (fun q : Nat => q ≤ K) (fun q => K - q) (fun q => AS.of [(0, .one (.lit (.string t))), (3, .one (.ptr 48 0)), (4, .one (.lit (.string (t.extract (64 * q) t.size))))] [(48, .var (blkN (S8.of startL) t q).cells)]),
    lg_init 0 (by omega) (weak_of (all_cons rfl (all_cons rfl (all_cons (eq_str rfl (by rw [ht0])) all_nil))) (all_cons (eq_var rfl start_cells) all_nil) rfl rfl), ?_⟩
  rintro σ k ⟨q, hq, rfl, rfl⟩
  have hsq := hes q
  refine ⟨_, Weak.refl _, ?_⟩
  (conv => whnf)
  (split <;> rename_i h <;> (try simp only [decide_eq_true_eq, decide_eq_false_iff_not, Bool.not_eq_true', Bool.not_eq_false', Bool.not_eq_true, Bool.not_eq_false, List.length_map] at h) <;> conv => whnf)
  · have hlt : q < K := by omega
    have hblk : (t.extract (64 * q) t.size).extract 0 64 = t.extract (64 * q) (64 * q + 64) := ext_ext t (by omega)
    refine ⟨by decide, by show (0 : Int) ≤ 64; decide, by simp only [Option.getD]; omega, t.extract (64 * q) (64 * q + 64), hblk.symm, ?_⟩; (conv => whnf)
    refine ⟨_, _, taken8_c (blkN (S8.of startL) t q) (t.extract (64 * q) (64 * q + 64)) (by rw [ext_size t (by omega)]; omega), lendA, ?_⟩; (conv => whnf)
    refine ⟨by decide, by simp only [Option.getD]; omega, by simp only [Option.getD]; omega, t.extract (64 * (q + 1)) t.size, ?_, ?_⟩
    · show _ = (t.extract (64 * q) t.size).extract 64 (t.extract (64 * q) t.size).size
      rw [ext_drop]; rfl
    (conv => whnf)
    exact lg_back (q + 1) (by omega) (by (try dsimp only); omega) (weak_of (all_cons rfl (all_cons rfl (all_cons rfl all_nil))) (all_cons rfl all_nil) rfl rfl)
  · have : q = K := by omega
    subst this
    refine ⟨_, _, long_c t, lendA, ?_⟩; (conv => whnf)
    refine ⟨_, _, cS, lendA, ?_⟩; (conv => whnf)
    exact ⟨close_str rfl, trivial⟩
end Go.Proofs.YthdejoipdgahiaaGreatDoor
namespace Go.Proofs.YthdejoipdgahiaaGreatDoor
open Go.RowKit
set_option linter.unusedSimpArgs false
set_option linter.unusedVariables false
set_option maxRecDepth 100000
set_option maxHeartbeats 4000000
theorem emp_app (t : ByteArray) : ByteArray.empty ++ t = t := by apply ByteArray.ext; apply Array.ext'; simp
theorem ext_ext2 (t : ByteArray) {a b c d : Nat} (h : a + d ≤ b) : (t.extract a b).extract c d = t.extract (a + c) (a + d) := by
  apply ByteArray.ext; apply Array.ext'
  rw [Lib.extract_data, Lib.extract_data, Lib.extract_data, List.drop_take, List.drop_drop, List.take_take]
  congr 1; omega
theorem ext_pre (x y : ByteArray) {a b : Nat} (h : b ≤ x.size) : (x ++ y).extract a b = x.extract a b := by
  apply ByteArray.ext; apply Array.ext'
  have hx : x.data.toList.length = x.size := by simp
  rw [Lib.extract_data, Lib.extract_data]
  rw [show (x ++ y).data.toList = x.data.toList ++ y.data.toList by simp]
  rcases Nat.le_total a x.size with h1 | h1
  · rw [List.drop_append_of_le_length (by omega), List.take_append_of_le_length (by rw [List.length_drop]; omega)]
  · rw [show b - a = 0 by omega, List.take_zero, List.take_zero]
theorem ext_post (x y : ByteArray) {a : Nat} (h : a ≤ x.size) : x.extract a x.size ++ y = (x ++ y).extract a (x ++ y).size := by
  apply ByteArray.ext; apply Array.ext'
  have hx : x.data.toList.length = x.size := by simp
  have hy : y.data.toList.length = y.size := by simp
  rw [show (x.extract a x.size ++ y).data.toList = (x.extract a x.size).data.toList ++ y.data.toList by simp, Lib.extract_data, Lib.extract_data]
  rw [show (x ++ y).data.toList = x.data.toList ++ y.data.toList by simp, ByteArray.size_append]
  rw [List.drop_append_of_le_length (by omega), List.take_of_length_le (by rw [List.length_drop]; omega), List.take_of_length_le (by rw [List.length_append, List.length_drop]; omega)]
theorem blocksN_pre (st : List UInt32) (x y : ByteArray) : ∀ n, 64 * n ≤ x.size → blocksN st (x ++ y) n = blocksN st x n
  | 0, _ => rfl
  | n + 1, h => by rw [blocksN, blocksN, blocksN_pre st x y n (by omega), ext_pre x y (by omega)]
theorem blocksN_split (st : List UInt32) (X : ByteArray) (k : Nat) : ∀ m, 64 * (k + m) ≤ X.size → blocksN (blocksN st X k) (X.extract (64 * k) X.size) m = blocksN st X (k + m)
  | 0, _ => rfl
  | m + 1, h => by
    rw [blocksN, blocksN_split st X k m (by omega), show k + (m + 1) = (k + m) + 1 by omega, blocksN, ext_ext2 X (by omega)]
    congr 2 <;> omega
theorem moreF_two (st : List UInt32) (a b : ByteArray) : moreF (moreF ⟨st, .empty, 0⟩ a) b = moreF ⟨st, .empty, 0⟩ (a ++ b) := by
  unfold moreF
  simp only [emp_app]
  obtain ⟨K, hK⟩ : ∃ K, a.size / 64 = K := ⟨_, rfl⟩
  rw [hK]
  have hp := ext_post a b (a := 64 * K) (by omega)
  rw [hp]
  obtain ⟨X, hX⟩ : ∃ X, a ++ b = X := ⟨_, rfl⟩
  have hXs : X.size = a.size + b.size := by rw [← hX, ByteArray.size_append]
  have hpre := blocksN_pre st a b K (by omega)
  rw [hX] at hpre ⊢
  rw [ext_size X (Nat.le_refl _), ← hpre, ext_ext2 X (by omega)]
  obtain ⟨M, hM⟩ : ∃ M, (X.size - 64 * K) / 64 = M := ⟨_, rfl⟩
  have hKM : X.size / 64 = K + M := by omega
  rw [hM, hKM, blocksN_split st X K M (by omega)]
  congr 1
  · congr 1 <;> omega
  · omega
theorem digest_eq (t : ByteArray) : bytesOf (outL (blkN (blkN (S8.of startL) t (t.size / 64)) (bytesOf (endL (t.extract (64 * (t.size / 64)) t.size) t.size)) ((endL (t.extract (64 * (t.size / 64)) t.size) t.size).length / 64)).list) = digF t := by
  unfold digF endF
  have e1 : moreF ⟨startL, .empty, 0⟩ t = ⟨blocksN startL t (t.size / 64), t.extract (64 * (t.size / 64)) t.size, (t.size : Int)⟩ := by unfold moreF; simp only [emp_app]; rw [Int.zero_add]
  rw [e1]
  unfold moreF
  simp only [Int.toNat_natCast]
  have e2 : t.extract (64 * (t.size / 64)) t.size ++ bytesOf (padL (t.extract (64 * (t.size / 64)) t.size).size t.size) = bytesOf (endL (t.extract (64 * (t.size / 64)) t.size) t.size) := by
    unfold endL
    rw [← bytes_app, bytes_of]
  rw [e2, blkN_list, blkN_list, bytes_size, show (S8.of startL).list = startL from rfl]
theorem digImpl_c (t : ByteArray) (ht : t.size ≤ 1000000000) : Fun1 Tryz.prog 66 [.one (.lit (.string t))] (.one (.lit (.string (digF t)))) := by
  have := digestImpl_c t ht
  rw [digest_eq] at this
  exact this
theorem l09Digest_c (a b : ByteArray) (ha : a.size ≤ 1000000) (hb : b.size ≤ 1000000) : Fun1 Tryz.prog 110 [.one (.lit (.string a)), .one (.lit (.string b))] (.one (.lit (.string (digF (a ++ b))))) := by
  have h1 := l05More_c ⟨startL, .empty, 0⟩ rfl (by decide) (by decide) a (by omega)
  have hg := more_good good0 (t := a) (by show (0 : Int) + (a.size : Int) ≤ 1099511627776; omega)
  have h2 := l05More_c (moreF ⟨startL, .empty, 0⟩ a) hg.st ⟨hg.s0, by have := hg.s1; omega⟩ (by have := hg.r; omega) b (by omega)
  have hg2 := more_good hg (t := b) (by show (0 : Int) + (a.size : Int) + (b.size : Int) ≤ 1099511627776; omega)
  have h3 := l05End_c _ hg2
  rw [show endF (moreF (moreF ⟨startL, .empty, 0⟩ a) b) = digF (a ++ b) by rw [moreF_two]; rfl] at h3
  refine fun1_of_vc tb_ok mix (fn := Tryz.f110) Tryz.func110 rfl (by kernel_rfl) (by kernel_rfl) (by simp [Tryz.f110]) (by rfl) ?_
  (conv => whnf)
  refine ⟨_, _, hashBegin_c, lendA, ?_⟩; (conv => whnf)
  refine ⟨_, _, h1, lendA, ?_⟩; (conv => whnf)
  refine ⟨_, _, h2, lendA, ?_⟩; (conv => whnf)
  refine ⟨_, _, h3, lendA, ?_⟩; (conv => whnf)
  exact ⟨close_str rfl, trivial⟩
end Go.Proofs.YthdejoipdgahiaaGreatDoor
namespace Go.Proofs.YthdejoipdgahiaaGreatDoor
open Go.RowKit
set_option linter.unusedSimpArgs false
set_option linter.unusedVariables false
def unfN (u : Nat) : Int := if u % 2 = 1 then -((u / 2 : Nat) : Int) - 1 else ((u / 2 : Nat) : Int)
def getF (t : ByteArray) (at_ : Nat) : Nat → Nat → Nat → Int × Nat × Nat
  | 0, _, _ => (0, 0, 3)
  | f + 1, i, u =>
    if t.size ≤ at_ + i then (0, 0, 4)
    else if (i = 9 ∧ 1 < (byteAt t (at_ + i)).toNat) ∨ ((byteAt t (at_ + i)).toNat = 0 ∧ 0 < i) then (0, 0, 3)
    else if (byteAt t (at_ + i)).toNat < 128 then (unfN (u + (byteAt t (at_ + i)).toNat * 128 ^ i), at_ + i + 1, 0)
    else getF t at_ f (i + 1) (u + (byteAt t (at_ + i)).toNat % 128 * 128 ^ i)
def getN (t : ByteArray) (at_ : Nat) : Int × Nat × Nat := getF t at_ 10 0 0
theorem byteAt_get {t : ByteArray} {p : Nat} (h : p < t.size) : t.data.toList[p]? = some (byteAt t p) := by
  unfold byteAt
  rw [List.getD_eq_getElem?_getD, List.getElem?_eq_getElem (by simpa using h)]; rfl
theorem getF_ok {t : ByteArray} {at_ : Nat} : ∀ {f i u : Nat} {n : Int} {e g : Nat}, getF t at_ f i u = (n, e, 0) → f ≤ g → ∃ w, (0 < i → 0 < w) ∧ n = unfN (u + w * 128 ^ i) ∧ at_ + i < e ∧ e ≤ t.size ∧ (t.data.toList.drop (at_ + i)).take (e - (at_ + i)) = numL g w
  | 0, _, _, _, _, _, h, _ => by simp [getF] at h
  | f + 1, i, u, n, e, g, h, hg => by
    rw [getF] at h
    split at h
    · simp at h
    · rename_i hs
      have hlt : at_ + i < t.size := by omega
      have hb := byteAt_get hlt
      have hll : at_ + i < t.data.toList.length := by simpa using hlt
      have hdr : t.data.toList.drop (at_ + i) = byteAt t (at_ + i) :: t.data.toList.drop (at_ + i + 1) := by
        rw [List.drop_eq_getElem_cons hll]; congr 1
        rw [List.getElem?_eq_getElem hll] at hb; exact Option.some.inj hb
      obtain ⟨b, hbb⟩ : ∃ b, byteAt t (at_ + i) = b := ⟨_, rfl⟩
      rw [hbb] at h hdr
      have hb256 := b.toNat_lt
      split at h
      · simp at h
      · rename_i hn
        split at h
        · rename_i h128
          simp only [Prod.mk.injEq] at h
          obtain ⟨rfl, rfl, _⟩ := h
          refine ⟨b.toNat, fun h0 => ?_, rfl, by omega, by omega, ?_⟩
          · exact Nat.pos_of_ne_zero fun e => hn (.inr ⟨e, h0⟩)
          · rw [hdr, show at_ + i + 1 - (at_ + i) = 1 by omega]
            show [b] = _
            cases g with
            | zero => show _ = [UInt8.ofNat b.toNat]; rw [UInt8.ofNat_toNat]
            | succ g => rw [numL, if_neg (by omega), UInt8.ofNat_toNat]
        · rename_i h128
          obtain ⟨g, rfl⟩ : ∃ g', g = g' + 1 := ⟨g - 1, by omega⟩
          obtain ⟨w, hw, hn', he1, he2, hl⟩ := getF_ok (g := g) h (by omega)
          refine ⟨b.toNat % 128 + 128 * w, fun _ => by have := hw (by omega); omega, ?_, by omega, he2, ?_⟩
          · rw [hn', Nat.pow_succ]; congr 1
            rw [Nat.add_mul, Nat.add_assoc]; congr 2
            rw [← Nat.mul_assoc, Nat.mul_comm w, Nat.mul_right_comm, Nat.mul_assoc, Nat.mul_comm (128 * _)]
          · have := hw (by omega)
            rw [numL, if_pos (by omega), show (b.toNat % 128 + 128 * w) % 128 + 128 = b.toNat by omega, show (b.toNat % 128 + 128 * w) / 128 = w by omega, UInt8.ofNat_toNat, ← hl, hdr]
            rw [show e - (at_ + i) = (e - (at_ + (i + 1))) + 1 by omega, List.take_succ_cons]; rfl
theorem getN_put {t : ByteArray} {a e n : Nat} (h : getN t a = ((n : Int), e, 0)) : a < e ∧ e ≤ t.size ∧ t.extract a e = putN n := by
  obtain ⟨w, _, hn, h1, h2, h3⟩ := getF_ok (g := 10) h (Nat.le_refl _)
  refine ⟨by omega, h2, ?_⟩
  have hw : w = 2 * n := by
    rw [Nat.pow_zero, Nat.mul_one, Nat.zero_add] at hn
    unfold unfN at hn
    split at hn <;> omega
  rw [hw, Nat.add_zero] at h3
  apply ByteArray.ext; apply Array.ext'
  rw [Lib.extract_data, h3]; rfl
theorem getN_at {t : ByteArray} {a e : Nat} {n : Int} (h : getN t a = (n, e, 0)) : a < e ∧ e ≤ t.size := by
  obtain ⟨w, _, hn, h1, h2, h3⟩ := getF_ok (g := 10) h (Nat.le_refl _)
  exact ⟨by omega, h2⟩
end Go.Proofs.YthdejoipdgahiaaGreatDoor
namespace Go.Proofs.YthdejoipdgahiaaGreatDoor
open Go.RowKit
set_option linter.unusedSimpArgs false
set_option linter.unusedVariables false
set_option maxRecDepth 100000
set_option maxHeartbeats 4000000
theorem names_c (d : DDrive) (hd : d.ok) : Fun1 Tryz.prog 91 [.agg d.enc] (.one (.row true 1 ((d.files.map DStored.name).map eStr))) := by
  obtain ⟨⟨hl, hf⟩, hr⟩ := hd
  refine fun1_of_vc tb_ok mix (fn := Tryz.f91) Tryz.func91 rfl (by kernel_rfl) (by kernel_rfl) (by simp [Tryz.f91]) (by show AV.nb (4 + 1) _ = true; exact nb_map (n := 4) (fun y => eStr_nbn 4 y) _) ?_
  (conv => whnf)
  refine ⟨LG (fun i : Nat => i ≤ d.files.length) (fun i => d.files.length - i) (fun i => AS.of [(3, .one (.loc 272 0 i)), (7, .one (.row false 3 (d.files.map DStored.enc))), (8, .one (.lit (.int .i64 (d.files.length : Nat)))), (9, .one (.lit (.int .i64 (i : Nat))))] [(272, .row true 1 (((d.files.take i).map DStored.name).map eStr))]), lg_init 0 (by omega) (weak_nil 3 272 1 rfl rfl (weak_of allsA allsA rfl rfl)), ?_⟩
  rintro σ k ⟨i, hi, rfl, rfl⟩
  refine ⟨_, Weak.refl _, ?_⟩
  (conv => whnf)
  (split <;> rename_i h <;> (try simp only [decide_eq_true_eq, decide_eq_false_iff_not, Bool.not_eq_true', Bool.not_eq_false', Bool.not_eq_true, Bool.not_eq_false, List.length_map] at h) <;> conv => whnf)
  · have hlt : i < d.files.length := by omega
    have hts : ((d.files.take (i + 1)).map DStored.name).map eStr = ((d.files.take i).map DStored.name).map eStr ++ [eStr d.files[i].name] := by
      rw [List.take_succ_eq_append_getElem hlt, List.map_append, List.map_append]; rfl
    refine ⟨i, rfl, _, at_map hlt, ?_⟩; (conv => whnf)
    refine ⟨_, _, ⟨rfl, Nat.le_refl _, rfl, rfl⟩, ?_⟩; (conv => whnf)
    refine ⟨_, rfl, rfl, by simp; omega, rfl, by simp [maxLen, chunk]; omega, by simp [chunk]; omega, ?_⟩; (conv => whnf)
    (refine ⟨((i + 1 : Nat) : Int), by rw [← wrap64_id] <;> omega, ?_⟩; conv => whnf)
    exact lg_back (i + 1) (by omega) (by (try dsimp only); omega) (weak_of (all_cons (eq_loc rfl (by simp [chunk]; omega)) (all_cons rfl (all_cons rfl (all_cons rfl all_nil)))) (all_cons (eq_row rfl (by rw [hts]; rfl)) all_nil) rfl rfl)
  · have : i = d.files.length := by omega
    subst this
    exact ⟨close_row rfl rfl (by simp) (by simp), trivial⟩
end Go.Proofs.YthdejoipdgahiaaGreatDoor
namespace Go.Proofs.YthdejoipdgahiaaGreatDoor
open Go.RowKit
set_option linter.unusedSimpArgs false
set_option linter.unusedVariables false
set_option maxRecDepth 100000
set_option maxHeartbeats 4000000
def objOk (s : ByteArray) : Bool := nameOk s 60 && !isTmp s
theorem nameOk_60 (s : ByteArray) : nameOk s 60 = (nameOk s 80 && decide ((s.size : Int) ≤ 60)) := by
  rw [Bool.eq_iff_iff]
  simp only [nameOk, Bool.and_eq_true, decide_eq_true_eq]
  constructor
  · rintro ⟨h1, h2, h3⟩; exact ⟨⟨h1, h2, by omega⟩, h3⟩
  · rintro ⟨⟨h1, h2, h3⟩, h4⟩; exact ⟨h1, h2, h4⟩
theorem objectImpl_c (s : ByteArray) (hs : s.size ≤ 4294967296) : Fun1 Tryz.prog 25 [.one (.lit (.string s))] (.one (.lit (.bool (objOk s)))) := by
  refine fun1_of_vc tb_ok mix (fn := Tryz.f25) Tryz.func25 rfl (by kernel_rfl) (by kernel_rfl) (by simp [Tryz.f25]) (by rfl) ?_
  (conv => whnf)
  refine ⟨_, _, isName_c s 60 hs, lendA, ?_⟩; (conv => whnf)
  (split <;> rename_i h <;> (try simp only [decide_eq_true_eq, decide_eq_false_iff_not, Bool.not_eq_true', Bool.not_eq_false', Bool.not_eq_true, Bool.not_eq_false, List.length_map] at h) <;> conv => whnf)
  · refine ⟨_, _, hasPrefix_c s ⟨#[116, 45]⟩, lendA, ?_⟩; (conv => whnf)
    exact ⟨close_bool (by rw [objOk, h]; rfl), trivial⟩
  · exact ⟨close_bool (by rw [objOk, h]; rfl), trivial⟩
theorem objectSpec_c (s : ByteArray) (hs : s.size ≤ 4294967296) : Fun1 Tryz.prog 19 [.one (.lit (.string s))] (.one (.lit (.bool (objOk s)))) := by
  refine fun1_of_vc tb_ok mix (fn := Tryz.f19) Tryz.func19 rfl (by kernel_rfl) (by kernel_rfl) (by simp [Tryz.f19]) (by rfl) ?_
  (conv => whnf)
  refine ⟨_, _, nameSpec_c s hs, lendA, ?_⟩; (conv => whnf)
  (split <;> rename_i h <;> (try simp only [decide_eq_true_eq, decide_eq_false_iff_not, Bool.not_eq_true', Bool.not_eq_false', Bool.not_eq_true, Bool.not_eq_false, List.length_map] at h) <;> conv => whnf)
  · (split <;> rename_i h2 <;> (try simp only [decide_eq_true_eq, decide_eq_false_iff_not, Bool.not_eq_true', Bool.not_eq_false', Bool.not_eq_true, Bool.not_eq_false, List.length_map] at h2) <;> conv => whnf)
    · have h60 : nameOk s 60 = true := by rw [nameOk_60, h]; simp [h2]
      (split <;> rename_i h3 <;> (try simp only [decide_eq_true_eq, decide_eq_false_iff_not, Bool.not_eq_true', Bool.not_eq_false', Bool.not_eq_true, Bool.not_eq_false, List.length_map] at h3) <;> conv => whnf)
      · exact ⟨close_bool (by simp [objOk, h60, isTmp]; omega), trivial⟩
      · refine ⟨by simp, by simp, by simp; omega, _, rfl, ?_⟩; (conv => whnf)
        exact ⟨close_bool (by
          have h4 : 2 ≤ s.size := by omega
          simp only [objOk, h60, isTmp, h4, decide_true, Bool.true_and]
          rfl), trivial⟩
    · exact ⟨close_bool (by rw [objOk, nameOk_60, h]; simp [h2]), trivial⟩
  · exact ⟨close_bool (by rw [objOk, nameOk_60, h]; simp), trivial⟩
theorem findI_nonneg {fs : List DStored} {name : ByteArray} : (0 ≤ findI fs name) ↔ hasN fs name = true := by
  unfold findI; split <;> rename_i h <;> simp [h]
end Go.Proofs.YthdejoipdgahiaaGreatDoor
namespace Go.Proofs.YthdejoipdgahiaaGreatDoor
open Go.RowKit
set_option linter.unusedSimpArgs false
set_option linter.unusedVariables false
set_option maxRecDepth 100000
set_option maxHeartbeats 4000000
def frE (k m i n : Nat) (whole text : ByteArray) : List AV := [vN k, vN m, vN i, vN n, .lit (.string whole), .lit (.string text)]
def headN (k m i n : Nat) (whole : ByteArray) : ByteArray := ⟨#[70]⟩ ++ putN k ++ putN m ++ putN i ++ putN n ++ whole
def frameN (k m i n : Nat) (whole text : ByteArray) : ByteArray := headN k m i n whole ++ digF (headN k m i n whole ++ text) ++ text
theorem one_size (b : UInt8) : (ByteArray.mk #[b]).size = 1 := rfl
theorem headN_size (k m i n : Nat) (whole : ByteArray) : (headN k m i n whole).size ≤ 45 + whole.size := by
  have := putN_size k
  have := putN_size m
  have := putN_size i
  have := putN_size n
  simp only [headN, ByteArray.size_append, one_size]; omega
theorem frameImpl_c {k m i n : Nat} {whole text : ByteArray} (hk : k < 1099511627776) (hm : m < 1099511627776) (hi : i < 1099511627776) (hn : n < 1099511627776) (hw : whole.size ≤ 100000) (ht : text.size ≤ 100000) :
    Fun1 Tryz.prog 89 [.agg (frE k m i n whole text)] (.one (.lit (.string (frameN k m i n whole text)))) := by
  have s1 := putN_size k
  have s2 := putN_size m
  have s3 := putN_size i
  have s4 := putN_size n
  have h0 := headN_size k m i n whole
  have hd := digF_size (headN k m i n whole ++ text)
  refine fun1_of_vc tb_ok mix (fn := Tryz.f89) Tryz.func89 rfl (by kernel_rfl) (by kernel_rfl) (by simp [Tryz.f89]) (by rfl) ?_
  (conv => whnf)
  refine ⟨_, _, putImpl_c hk, lendA, ?_⟩; (conv => whnf)
  refine ⟨by rw [one_size]; omega, ?_⟩; (conv => whnf)
  refine ⟨_, _, putImpl_c hm, lendA, ?_⟩; (conv => whnf)
  refine ⟨by simp only [ByteArray.size_append, one_size]; omega, ?_⟩; (conv => whnf)
  refine ⟨_, _, putImpl_c hi, lendA, ?_⟩; (conv => whnf)
  refine ⟨by simp only [ByteArray.size_append, one_size]; omega, ?_⟩; (conv => whnf)
  refine ⟨_, _, putImpl_c hn, lendA, ?_⟩; (conv => whnf)
  refine ⟨by simp only [ByteArray.size_append, one_size]; omega, ?_⟩; (conv => whnf)
  refine ⟨by simp only [ByteArray.size_append, one_size]; omega, ?_⟩
  rw [show ByteArray.mk #[70] ++ putN k ++ putN m ++ putN i ++ putN n ++ whole = headN k m i n whole from rfl]
  (conv => whnf)
  refine ⟨by omega, ?_⟩; (conv => whnf)
  refine ⟨_, _, digImpl_c (headN k m i n whole ++ text) (by rw [ByteArray.size_append]; omega), lendA, ?_⟩; (conv => whnf)
  refine ⟨by rw [hd]; omega, ?_⟩; (conv => whnf)
  refine ⟨by rw [ByteArray.size_append, hd]; omega, ?_⟩; (conv => whnf)
  exact ⟨close_str rfl, trivial⟩
end Go.Proofs.YthdejoipdgahiaaGreatDoor
namespace Go.Proofs.YthdejoipdgahiaaGreatDoor
open Go.RowKit
set_option linter.unusedSimpArgs false
set_option linter.unusedVariables false
structure Fr where
  k : Int
  m : Int
  i : Int
  n : Int
  whole : ByteArray
  text : ByteArray
def Fr.zero : Fr := ⟨0, 0, 0, 0, .empty, .empty⟩
def Fr.right (f : Fr) : Bool := codeOk f.k f.m && (decide (0 ≤ f.i) && decide (f.i ≤ f.k + f.m - 1)) && (decide (0 ≤ f.n) && decide (f.n ≤ 12000)) && decide (f.whole.size = 32) && decide (f.text.size = shN f.k.toNat f.n.toNat)
def Fr.bytes (f : Fr) : ByteArray := frameN f.k.toNat f.m.toNat f.i.toNat f.n.toNat f.whole f.text
theorem Fr.right_iff {f : Fr} : f.right = true ↔ ∃ k m i n : Nat, f.k = k ∧ f.m = m ∧ f.i = i ∧ f.n = n ∧ 1 ≤ k ∧ k ≤ 8 ∧ m ≤ 6 ∧ i < k + m ∧ n ≤ 12000 ∧ f.whole.size = 32 ∧ f.text.size = shN k n := by
  simp only [Fr.right, codeOk, Bool.and_eq_true, decide_eq_true_eq]
  constructor
  · rintro ⟨⟨⟨⟨⟨⟨⟨h1, h2⟩, h3⟩, h4⟩, h5, h6⟩, h7, h8⟩, h9⟩, h10⟩
    exact ⟨f.k.toNat, f.m.toNat, f.i.toNat, f.n.toNat, by omega, by omega, by omega, by omega, by omega, by omega, by omega, by omega, by omega, h9, h10⟩
  · rintro ⟨k, m, i, n, e1, e2, e3, e4, h1, h2, h3, h4, h5, h6, h7⟩
    rw [e1, e2, e3, e4]
    exact ⟨⟨⟨⟨⟨⟨⟨by omega, by omega⟩, by omega⟩, by omega⟩, by omega, by omega⟩, by omega, by omega⟩, h6⟩, h7⟩
structure Rd where
  at_ : Nat
  bad : Bool
def takeT (t : ByteArray) (n : Nat) (r : Rd) : ByteArray := if r.bad = true ∨ t.size < r.at_ + n then .empty else t.extract r.at_ (r.at_ + n)
def takeR (t : ByteArray) (n : Nat) (r : Rd) : Rd := if r.bad = true ∨ t.size < r.at_ + n then ⟨r.at_, true⟩ else ⟨r.at_ + n, false⟩
def numV (t : ByteArray) (r : Rd) : Int := if r.bad = true ∨ (getN t r.at_).2.2 ≠ 0 then 0 else (getN t r.at_).1
def numR (t : ByteArray) (r : Rd) : Rd := if r.bad = true ∨ (getN t r.at_).2.2 ≠ 0 then ⟨r.at_, true⟩ else ⟨(getN t r.at_).2.1, false⟩
def rdN (t : ByteArray) : Nat → Rd
  | 0 => takeR t 1 ⟨0, false⟩
  | j + 1 => numR t (rdN t j)
def rd6 (t : ByteArray) : Rd := takeR t 32 (rdN t 4)
def rd7 (t : ByteArray) : Rd := takeR t 32 (rd6 t)
def rd8 (t : ByteArray) : Rd := takeR t (t.size - (rd7 t).at_) (rd7 t)
def readV (t : ByteArray) : Fr := ⟨numV t (rdN t 0), numV t (rdN t 1), numV t (rdN t 2), numV t (rdN t 3), takeT t 32 (rdN t 4), takeT t (t.size - (rd7 t).at_) (rd7 t)⟩
def readOk (t : ByteArray) : Bool := !(rd8 t).bad && decide (takeT t 1 ⟨0, false⟩ = ⟨#[70]⟩) && (readV t).right && decide ((readV t).bytes = t)
def readFr (t : ByteArray) : Fr := if readOk t = true then readV t else Fr.zero
theorem takeR_good {t : ByteArray} {n a : Nat} (h : a + n ≤ t.size) : takeR t n ⟨a, false⟩ = ⟨a + n, false⟩ := if_neg (fun e => e.elim (fun e => by cases e) (fun e => by simp only at e; omega))
theorem takeT_good {t : ByteArray} {n a : Nat} (h : a + n ≤ t.size) : takeT t n ⟨a, false⟩ = t.extract a (a + n) := if_neg (fun e => e.elim (fun e => by cases e) (fun e => by simp only at e; omega))
theorem takeR_short {t : ByteArray} {n a : Nat} (h : t.size < a + n) : takeR t n ⟨a, false⟩ = ⟨a, true⟩ := if_pos (.inr h)
theorem takeR_le {t : ByteArray} {n : Nat} {r : Rd} (h : r.at_ ≤ t.size) : (takeR t n r).at_ ≤ t.size := by
  unfold takeR; split <;> simp only <;> omega
theorem numR_le {t : ByteArray} {r : Rd} (h : r.at_ ≤ t.size) : (numR t r).at_ ≤ t.size := by
  unfold numR
  split
  · exact h
  · rename_i hn
    have h0 : (getN t r.at_).2.2 = 0 := by simpa using fun e => hn (.inr e)
    obtain ⟨⟨v, e, c⟩, hg⟩ : ∃ x, getN t r.at_ = x := ⟨_, rfl⟩
    rw [hg] at h0
    simp only at h0
    subst h0
    show (getN t r.at_).2.1 ≤ _
    rw [hg]
    exact (getN_at hg).2
theorem rdN_le (t : ByteArray) : ∀ j, (rdN t j).at_ ≤ t.size
  | 0 => takeR_le (Nat.zero_le _)
  | j + 1 => numR_le (rdN_le t j)
theorem takeR_bad {t : ByteArray} {n : Nat} {r : Rd} (h : r.bad = true) : (takeR t n r).bad = true := by rw [takeR, if_pos (.inl h)]
theorem numR_bad {t : ByteArray} {r : Rd} (h : r.bad = true) : (numR t r).bad = true := by rw [numR, if_pos (.inl h)]
theorem rdN_bad {t : ByteArray} {i : Nat} (h : (rdN t i).bad = true) : ∀ d, (rdN t (i + d)).bad = true
  | 0 => h
  | d + 1 => numR_bad (rdN_bad h d)
theorem rd4_bad {t : ByteArray} (h : (rdN t 4).bad = true) : readOk t = false := by
  have : (rd8 t).bad = true := takeR_bad (takeR_bad (takeR_bad h))
  rw [readOk, this]; rfl
def posF (t : ByteArray) : Nat → Nat
  | 0 => 1
  | j + 1 => (getN t (posF t j)).2.1
def valF (t : ByteArray) (j : Nat) : Int := (getN t (posF t j)).1
def goodF (t : ByteArray) (j : Nat) : Prop := ∀ q, q < j → (getN t (posF t q)).2.2 = 0
theorem rdN_good {t : ByteArray} (h1 : 1 ≤ t.size) : ∀ {j}, goodF t j → rdN t j = ⟨posF t j, false⟩
  | 0, _ => by rw [rdN, takeR_good (by omega)]; rfl
  | j + 1, h => by
    rw [rdN, rdN_good h1 (fun q hq => h q (by omega)), numR, if_neg (by simpa using h j (by omega))]; rfl
theorem goodF_step {t : ByteArray} {j : Nat} (h : goodF t j) (h0 : (getN t (posF t j)).2.2 = 0) : goodF t (j + 1) := fun q hq => by
  by_cases e : q = j
  · subst e; exact h0
  · exact h q (by omega)
theorem posF_le {t : ByteArray} (h1 : 1 ≤ t.size) {j : Nat} (h : goodF t j) : posF t j ≤ t.size := by
  have := rdN_le t j
  rw [rdN_good h1 h] at this; exact this
theorem read_empty {t : ByteArray} (h : t.size < 1) : readOk t = false := by
  have h0 : (rdN t 0).bad = true := by rw [rdN, takeR, if_pos (.inr (by simpa using h))]
  exact rd4_bad (rdN_bad h0 4)
theorem read_num {t : ByteArray} {i : Nat} (h1 : 1 ≤ t.size) (hi : i < 4) (hg : goodF t i) (hb : (getN t (posF t i)).2.2 ≠ 0) : readOk t = false := by
  have h0 : (rdN t (i + 1)).bad = true := by rw [rdN, rdN_good h1 hg, numR, if_pos (.inr hb)]
  have := rdN_bad h0 (3 - i)
  rw [show i + 1 + (3 - i) = 4 by omega] at this
  exact rd4_bad this
theorem read_short {t : ByteArray} (h1 : 1 ≤ t.size) (hg : goodF t 4) (h : t.size < posF t 4 + 64) : readOk t = false := by
  have : (rd7 t).bad = true := by
    rw [rd7, rd6, rdN_good h1 hg]
    by_cases h2 : t.size < posF t 4 + 32
    · exact takeR_bad (by rw [takeR, if_pos (.inr h2)])
    · rw [takeR_good (by omega), takeR_short (by omega)]
  have h8 : (rd8 t).bad = true := takeR_bad this
  rw [readOk, h8]; rfl
theorem ext_app {t : ByteArray} {a b c : Nat} (h1 : a ≤ b) (h2 : b ≤ c) : t.extract a b ++ t.extract b c = t.extract a c := by
  apply ByteArray.ext; apply Array.ext'
  rw [show (t.extract a b ++ t.extract b c).data.toList = (t.extract a b).data.toList ++ (t.extract b c).data.toList by rw [ByteArray.data_append, Array.toList_append], Lib.extract_data, Lib.extract_data, Lib.extract_data]
  rw [show c - a = (b - a) + (c - b) by omega, List.take_add, List.drop_drop, show a + (b - a) = b by omega]
theorem ext_all (t : ByteArray) : t.extract 0 t.size = t := by
  apply ByteArray.ext; apply Array.ext'
  rw [Lib.extract_data, List.drop_zero, List.take_of_length_le (by simp)]
theorem one_byte {t : ByteArray} (h : 1 ≤ t.size) : t.extract 0 1 = ⟨#[byteAt t 0]⟩ := by
  apply ByteArray.ext; apply Array.ext'
  have hb := byteAt_get (t := t) (p := 0) (by omega)
  rw [Lib.extract_data, List.drop_zero]
  cases hl : t.data.toList with
  | nil => rw [hl] at hb; cases hb
  | cons x l => rw [hl] at hb; cases hb; rw [List.take_succ_cons]; rfl
theorem read_sign {t : ByteArray} (h1 : 1 ≤ t.size) (h : (byteAt t 0).toNat ≠ 70) : readOk t = false := by
  have : takeT t 1 ⟨0, false⟩ ≠ ⟨#[70]⟩ := by
    rw [takeT_good (by omega), Nat.zero_add, one_byte h1]
    intro e
    simp only [ByteArray.mk.injEq] at e
    have : byteAt t 0 = 70 := by simpa using e
    rw [this] at h; exact h rfl
  rw [readOk, decide_eq_false this, Bool.and_false, Bool.false_and, Bool.false_and]
def frV (t : ByteArray) : Fr := ⟨valF t 0, valF t 1, valF t 2, valF t 3, t.extract (posF t 4) (posF t 4 + 32), t.extract (posF t 4 + 64) t.size⟩
theorem readV_eq {t : ByteArray} (h1 : 1 ≤ t.size) (hg : goodF t 4) (h : posF t 4 + 64 ≤ t.size) : readV t = frV t ∧ (rd8 t).bad = false := by
  have e6 : rd6 t = ⟨posF t 4 + 32, false⟩ := by rw [rd6, rdN_good h1 hg, takeR_good (by omega)]
  have e7 : rd7 t = ⟨posF t 4 + 64, false⟩ := by rw [rd7, e6, takeR_good (by omega)]
  have v : ∀ j, j < 4 → numV t (rdN t j) = valF t j := fun j hj => by
    rw [rdN_good h1 (fun q hq => hg q (by omega)), numV, if_neg (by simpa using hg j hj)]; rfl
  constructor
  · rw [readV, frV, v 0 (by omega), v 1 (by omega), v 2 (by omega), v 3 (by omega), e7, rdN_good h1 hg, takeT_good (by omega), takeT_good (by simp only; omega)]
    simp only
    rw [show posF t 4 + 64 + (t.size - (posF t 4 + 64)) = t.size by omega]
  · rw [rd8, e7, takeR_good (by simp only; omega)]
theorem app_cancel {a b c d : ByteArray} (h : a ++ b = c ++ d) (hs : a.size = c.size) : a = c ∧ b = d := by
  have h' : a.data.toList ++ b.data.toList = c.data.toList ++ d.data.toList := by
    have := congrArg (fun x => x.data.toList) h
    simpa using this
  have := List.append_inj h' (by simpa using hs)
  exact ⟨ByteArray.ext (Array.ext' this.1), ByteArray.ext (Array.ext' this.2)⟩
theorem read_eq {t : ByteArray} (h1 : 1 ≤ t.size) (hs : (byteAt t 0).toNat = 70) (hg : goodF t 4) (h : posF t 4 + 64 ≤ t.size) :
    readV t = frV t ∧ readOk t = ((frV t).right && decide (digF (t.extract 0 (posF t 4 + 32) ++ (frV t).text) = t.extract (posF t 4 + 32) (posF t 4 + 64))) := by
  obtain ⟨e, e8⟩ := readV_eq h1 hg h
  refine ⟨e, ?_⟩
  have hsg : takeT t 1 ⟨0, false⟩ = ⟨#[70]⟩ := by
    rw [takeT_good (by omega), Nat.zero_add, one_byte h1, show byteAt t 0 = 70 from UInt8.toNat_inj.1 hs]
  rw [readOk, e8, decide_eq_true hsg, e]
  by_cases hr : (frV t).right = true
  · rw [hr]
    obtain ⟨k, m, i, n, hk, hm, hi, hn, -⟩ := Fr.right_iff.1 hr
    have gk : getN t 1 = ((k : Int), posF t 1, 0) := by rw [← hk]; exact Prod.ext rfl (Prod.ext rfl (hg 0 (by omega)))
    have gm : getN t (posF t 1) = ((m : Int), posF t 2, 0) := by rw [← hm]; exact Prod.ext rfl (Prod.ext rfl (hg 1 (by omega)))
    have gi : getN t (posF t 2) = ((i : Int), posF t 3, 0) := by rw [← hi]; exact Prod.ext rfl (Prod.ext rfl (hg 2 (by omega)))
    have gn : getN t (posF t 3) = ((n : Int), posF t 4, 0) := by rw [← hn]; exact Prod.ext rfl (Prod.ext rfl (hg 3 (by omega)))
    obtain ⟨k1, -, k2⟩ := getN_put gk
    obtain ⟨m1, -, m2⟩ := getN_put gm
    obtain ⟨i1, -, i2⟩ := getN_put gi
    obtain ⟨n1, -, n2⟩ := getN_put gn
    have hh : headN k m i n (frV t).whole = t.extract 0 (posF t 4 + 32) := by
      rw [headN, ← k2, ← m2, ← i2, ← n2, ← show byteAt t 0 = 70 from UInt8.toNat_inj.1 hs, ← one_byte h1]
      show _ ++ t.extract (posF t 4) (posF t 4 + 32) = _
      rw [ext_app (by omega) (by omega), ext_app (by omega) (by omega), ext_app (by omega) (by omega), ext_app (by omega) (by omega), ext_app (by omega) (by omega)]
    have hb : (frV t).bytes = t.extract 0 (posF t 4 + 32) ++ digF (t.extract 0 (posF t 4 + 32) ++ (frV t).text) ++ t.extract (posF t 4 + 64) t.size := by
      rw [Fr.bytes, hk, hm, hi, hn, Int.toNat_natCast, Int.toNat_natCast, Int.toNat_natCast, Int.toNat_natCast, frameN, hh]; rfl
    have ht : t = t.extract 0 (posF t 4 + 32) ++ t.extract (posF t 4 + 32) (posF t 4 + 64) ++ t.extract (posF t 4 + 64) t.size := by
      rw [ext_app (by omega) (by omega), ext_app (by omega) (by omega), ext_all]
    have : (frV t).bytes = t ↔ digF (t.extract 0 (posF t 4 + 32) ++ (frV t).text) = t.extract (posF t 4 + 32) (posF t 4 + 64) := by
      rw [hb]
      constructor
      · intro h2
        have h3 := h2.trans ht
        rw [ByteArray.append_assoc, ByteArray.append_assoc] at h3
        have h4 := (app_cancel h3 rfl).2
        refine (app_cancel h4 ?_).1
        rw [digF_size, ext_size t (by omega)]; omega
      · intro h2; rw [h2]; exact ht.symm
    simp only [this, Bool.not_false, Bool.true_and]
  · rw [Bool.eq_false_iff.2 hr]; rfl
end Go.Proofs.YthdejoipdgahiaaGreatDoor
namespace Go.Proofs.YthdejoipdgahiaaGreatDoor
open Go.RowKit
set_option linter.unusedSimpArgs false
set_option linter.unusedVariables false
def updL {α : Type} (f : Nat → α) (d : α) (n i : Nat) : List α := (List.range i).map f ++ List.replicate (n - i) d
theorem updL_len {α : Type} {f : Nat → α} {d : α} {n i : Nat} (h : i ≤ n) : (updL f d n i).length = n := by simp [updL]; omega
theorem updL_zero {α : Type} (f : Nat → α) (d : α) (n : Nat) : updL f d n 0 = List.replicate n d := by simp [updL]
theorem updL_full {α : Type} (f : Nat → α) (d : α) (n : Nat) : updL f d n n = (List.range n).map f := by simp [updL]
theorem updL_set {α : Type} {f : Nat → α} {d : α} {n i : Nat} (h : i < n) : (updL f d n i).set i (f i) = updL f d n (i + 1) := by
  unfold updL
  rw [List.set_append_right _ _ (by simp), List.length_map, List.length_range, Nat.sub_self, List.range_succ, List.map_append, List.append_assoc, show n - i = (n - (i + 1)) + 1 by omega, List.replicate_succ]
  rfl
theorem updL_skip {α : Type} {f : Nat → α} {d : α} {n i : Nat} (h : i < n) (e : f i = d) : updL f d n i = updL f d n (i + 1) := by
  unfold updL
  rw [List.range_succ, List.map_append, List.append_assoc, show n - i = (n - (i + 1)) + 1 by omega, List.replicate_succ]
  simp [e]
def txtD (d : DDrive) (name : ByteArray) : ByteArray := ((d.files[findP d.files name]?).map (·.text)).getD .empty
def drvL (ds : List DDrive) (i : Nat) : DDrive := ds.getD i ⟨[], 0⟩
def thereO (ds : List DDrive) (name : ByteArray) (i : Nat) : Bool := hasN (drvL ds i).files name
def frI (ds : List DDrive) (name : ByteArray) (i : Nat) : Fr := if thereO ds name i = true then readFr (txtD (drvL ds i) name) else Fr.zero
def isF (k m : Nat) (ds : List DDrive) (name : ByteArray) (i : Nat) : Bool :=
  thereO ds name i && (readOk (txtD (drvL ds i) name) && decide ((readFr (txtD (drvL ds i) name)).k = (k : Int)) && decide ((readFr (txtD (drvL ds i) name)).m = (m : Int)) && decide ((readFr (txtD (drvL ds i) name)).i = (i : Int)))
def frO (k m : Nat) (ds : List DDrive) (name : ByteArray) (i : Nat) : Option Fr := if isF k m ds name i = true then some (frI ds name i) else none
def likeF (f g : Fr) : Bool := decide (g.n = f.n) && decide (g.whole = f.whole)
def shI (fr : Nat → Option Fr) (f : Fr) (j : Nat) : Sh := match fr j with
  | some g => if likeF f g = true then ⟨true, g.text⟩ else Sh.none
  | none => Sh.none
def goodI (fr : Nat → Option Fr) (f : Fr) (j : Nat) : Bool := match fr j with
  | some g => likeF f g
  | none => false
def shO (n : Nat) (fr : Nat → Option Fr) (f : Fr) : List Sh := (List.range n).map (shI fr f)
def tryT (k m : Nat) (fr : Nat → Option Fr) (f : Fr) : ByteArray := decT k m (shN k f.n.toNat) f.n.toNat (shO (k + m) fr f)
def tryC (k m : Nat) (fr : Nat → Option Fr) (f : Fr) : Nat := decC k m (shO (k + m) fr f)
def tryB (k m : Nat) (fr : Nat → Option Fr) (f : Fr) : Bool := decide (tryC k m fr f = 0) && decide (digF (tryT k m fr f) = f.whole)
def stO (k m : Nat) (fr : Nat → Option Fr) : Nat → Option Fr
  | 0 => none
  | i + 1 => match stO k m fr i with
    | some f => some f
    | none => match fr i with
      | some f => if tryB k m fr f = true then some f else none
      | none => none
theorem stO_keep {k m : Nat} {fr : Nat → Option Fr} {i : Nat} {f : Fr} (h : stO k m fr i = some f) : ∀ d, stO k m fr (i + d) = some f
  | 0 => h
  | d + 1 => by rw [← Nat.add_assoc, stO, stO_keep h d]
theorem stO_mem {k m : Nat} {fr : Nat → Option Fr} {f : Fr} : ∀ {i : Nat}, stO k m fr i = some f → ∃ j, j < i ∧ fr j = some f ∧ tryB k m fr f = true
  | 0, h => by cases h
  | i + 1, h => by
    rw [stO] at h
    cases h0 : stO k m fr i with
    | some f' =>
      rw [h0] at h
      cases h
      obtain ⟨j, h1, h2⟩ := stO_mem h0
      exact ⟨j, by omega, h2⟩
    | none =>
      rw [h0] at h
      simp only at h
      cases h1 : fr i with
      | none => rw [h1] at h; cases h
      | some f' =>
        rw [h1] at h
        simp only at h
        split at h
        · rename_i hb; cases h; exact ⟨i, by omega, h1, hb⟩
        · cases h
structure FrG (k m : Nat) (f : Fr) : Prop where
  n : ∃ n : Nat, f.n = n ∧ n ≤ 12000 ∧ f.text.size = shN k n
  whole : f.whole.size = 32
theorem frO_good {k m : Nat} {ds : List DDrive} {name : ByteArray} {i : Nat} {f : Fr} (h : frO k m ds name i = some f) : FrG k m f ∧ isF k m ds name i = true ∧ f = frI ds name i := by
  unfold frO at h
  split at h
  case isFalse => cases h
  rename_i hF
  cases h
  have hF' := hF
  unfold isF at hF
  simp only [Bool.and_eq_true, decide_eq_true_eq] at hF
  obtain ⟨ht, ⟨⟨hr, hk⟩, hm⟩, hi⟩ := hF
  have e : frI ds name i = readFr (txtD (drvL ds i) name) := by rw [frI, if_pos ht]
  rw [e]
  refine ⟨?_, hF', rfl⟩
  have e2 : readFr (txtD (drvL ds i) name) = readV (txtD (drvL ds i) name) := by rw [readFr, if_pos hr]
  have hright : (readV (txtD (drvL ds i) name)).right = true := by
    unfold readOk at hr
    simp only [Bool.and_eq_true] at hr
    exact hr.1.2
  rw [e2] at hk ⊢
  obtain ⟨k', m', i', n', h1, h2, h3, h4, _, _, _, _, h9, h10, h11⟩ := Fr.right_iff.1 hright
  have : k' = k := by rw [h1] at hk; omega
  subst this
  exact ⟨⟨n', h4, h9, h11⟩, h10⟩
theorem shO_len (n : Nat) (fr : Nat → Option Fr) (f : Fr) : (shO n fr f).length = n := by simp [shO]
theorem shO_size {k m : Nat} {fr : Nat → Option Fr} (hfr : ∀ j g, fr j = some g → FrG k m g) {f : Fr} (n : Nat) : ∀ s ∈ shO n fr f, s.have_ = true → s.text.size = shN k f.n.toNat := by
  intro s hs hh
  obtain ⟨j, _, rfl⟩ := List.mem_map.1 hs
  unfold shI at hh ⊢
  cases hj : fr j with
  | none => rw [hj] at hh; cases hh
  | some g =>
    rw [hj] at hh
    simp only at hh ⊢
    split
    · rename_i hl
      obtain ⟨n', h1, _, h2⟩ := (hfr j g hj).n
      unfold likeF at hl
      simp only [Bool.and_eq_true, decide_eq_true_eq] at hl
      show g.text.size = _
      rw [h2, ← hl.1, h1, Int.toNat_natCast]
    · rename_i hl; rw [if_neg hl] at hh; cases hh
theorem decT_size (k m L size : Nat) (l : List Sh) : (decT k m L size l).size ≤ size := by
  unfold decT
  split
  · exact Nat.zero_le _
  · rw [txtOf_size, List.length_take]; omega
def stT (k m : Nat) (fr : Nat → Option Fr) : Nat → ByteArray
  | 0 => .empty
  | i + 1 => match stO k m fr i with
    | some _ => stT k m fr i
    | none => match fr i with
      | some f => tryT k m fr f
      | none => stT k m fr i
end Go.Proofs.YthdejoipdgahiaaGreatDoor
namespace Go.Proofs.YthdejoipdgahiaaGreatDoor
open Go.RowKit
set_option linter.unusedSimpArgs false
set_option linter.unusedVariables false
set_option maxRecDepth 100000
set_option maxHeartbeats 4000000
theorem isManySh_c (l : List Sh) : Fun1 Tryz.prog 100 [.one (.row true 2 (l.map Sh.enc))] (.one (.lit (.bool (decide (400 < l.length))))) := by
  refine fun1_of_vc tb_ok mix (fn := Tryz.f100) Tryz.func100 rfl (by kernel_rfl) (by kernel_rfl) (by simp [Tryz.f100]) (by rfl) ?_
  (conv => whnf)
  exact ⟨close_bool (by simp; omega), trivial⟩
theorem indexSh_c (l : List Sh) (g : FuncId) (xs : List AV) (hxs : xs.all AV.isFree = true) (p : Sh → Bool) (hl : l.length ≤ 4294967296) (hg : ∀ d ∈ l, Fun1 Tryz.prog g [.agg d.enc, .one (.bptr xs 0)] (.one (.lit (.bool (p d))))) :
    Fun1 Tryz.prog 168 [.one (.row true 2 (l.map Sh.enc)), .one (.fn g [.bptr xs 0])] (.one (.lit (.int .i64 (match l.findIdx? p with | some i => (i : Int) | none => -1)))) := by
  refine fun1_of_vc tb_ok mix (fn := Tryz.f168) Tryz.func168 rfl (by kernel_rfl) (by kernel_rfl) (by simp [Tryz.f168]) (by rfl) ?_
  (conv => whnf)
  refine ⟨LG (fun i : Nat => i ≤ l.length ∧ ∀ j (h : j < l.length), j < i → p l[j] = false) (fun i => l.length - i) (fun i => AS.of [(0, .one (.row true 2 (l.map Sh.enc))), (1, .one (.fn g [.bptr xs 0])), (7, .one (.lit (.int .i64 (l.length : Nat)))), (8, .one (.lit (.int .i64 (i : Nat))))] []), lg_init 0 ⟨by omega, fun j h h' => by omega⟩ (weak_of allsA allsA rfl rfl), ?_⟩
  rintro σ k ⟨i, ⟨hi, hc⟩, rfl, rfl⟩
  refine ⟨_, Weak.refl _, ?_⟩
  (conv => whnf)
  (split <;> rename_i h <;> (try simp only [decide_eq_true_eq, decide_eq_false_iff_not, Bool.not_eq_true', Bool.not_eq_false', Bool.not_eq_true, Bool.not_eq_false, List.length_map] at h) <;> conv => whnf)
  · have hlt : i < l.length := by omega
    refine ⟨i, rfl, _, at_map hlt, ?_⟩; (conv => whnf)
    refine ⟨_, _, hg l[i] (List.getElem_mem hlt), lends_cons (lend_bor rfl rfl) (lends_cons (lend_one (la_bptr rfl rfl)) lends_nil), ?_⟩; (conv => whnf)
    (split <;> rename_i h2 <;> (try simp only [decide_eq_true_eq, decide_eq_false_iff_not, Bool.not_eq_true', Bool.not_eq_false', Bool.not_eq_true, Bool.not_eq_false, List.length_map] at h2) <;> conv => whnf)
    · have : l.findIdx? p = some i := by
        rw [List.findIdx?_eq_some_iff_getElem]
        exact ⟨hlt, h2, fun j hj => by have := hc j (by omega) hj; simp [this]⟩
      rw [this]
      exact (by repeat' (first | exact trivial | exact close_int rfl | exact close_str rfl | exact close_bool rfl | exact close_int (by omega) | exact close_row rfl rfl (by first | rfl | simp) (by first | rfl | simp) | exact close_nil (by first | rfl | simp) | exact rfl | apply And.intro | apply closeTs_cons rfl))
    · (refine ⟨((i + 1 : Nat) : Int), by rw [← wrap64_id] <;> omega, ?_⟩; conv => whnf)
      exact lg_back (i + 1) ⟨by omega, fun j hj hji => by
        by_cases e : j = i
        · subst e; exact h2
        · exact hc j hj (by omega)⟩ (by (try dsimp only); omega) (weak_of allsA allsA rfl rfl)
  · have : l.findIdx? p = none := by
      rw [List.findIdx?_eq_none_iff]
      intro x hx
      obtain ⟨j, hj, rfl⟩ := List.getElem_of_mem hx
      exact hc j hj (by omega)
    rw [this]
    exact (by repeat' (first | exact trivial | exact close_int rfl | exact close_str rfl | exact close_bool rfl | exact close_int (by omega) | exact close_row rfl rfl (by first | rfl | simp) (by first | rfl | simp) | exact close_nil (by first | rfl | simp) | exact rfl | apply And.intro | apply closeTs_cons rfl))
theorem containsSh_c (l : List Sh) (g : FuncId) (xs : List AV) (hxs : xs.all AV.isFree = true) (p : Sh → Bool) (hl : l.length ≤ 4294967296) (hg : ∀ d ∈ l, Fun1 Tryz.prog g [.agg d.enc, .one (.bptr xs 0)] (.one (.lit (.bool (p d))))) :
    Fun1 Tryz.prog 135 [.one (.row true 2 (l.map Sh.enc)), .one (.fn g [.bptr xs 0])] (.one (.lit (.bool (l.any p)))) := by
  refine fun1_of_vc tb_ok mix (fn := Tryz.f135) Tryz.func135 rfl (by kernel_rfl) (by kernel_rfl) (by simp [Tryz.f135]) (by rfl) ?_
  (conv => whnf)
  refine ⟨_, _, indexSh_c l g xs hxs p hl hg, lends_cons (lend_one (la_row rfl rfl)) (lends_cons (lend_one (la_fn rfl (all2_cons (la_bptr rfl rfl) all2_nil))) lends_nil), ?_⟩; (conv => whnf)
  cases hq : l.findIdx? p with
  | some i =>
    have : l.any p = true := by
      rw [List.findIdx?_eq_some_iff_getElem] at hq
      obtain ⟨h1, h2, _⟩ := hq
      exact List.any_eq_true.2 ⟨_, List.getElem_mem h1, h2⟩
    rw [this]
    exact ⟨close_bool (by simp), trivial⟩
  | none =>
    have : l.any p = false := by
      rw [List.findIdx?_eq_none_iff] at hq
      rw [List.any_eq_false]; exact fun x hx => by simp [hq x hx]
    rw [this]
    exact ⟨close_bool (by simp), trivial⟩
theorem wrongFn_c (s : Sh) (L : Nat) : Fun1 Tryz.prog 136 [.agg s.enc, .one (.bptr [vN L] 0)] (.one (.lit (.bool (s.have_ && decide (s.text.size ≠ L))))) := by
  obtain ⟨h, t⟩ := s
  cases h with
  | false =>
    refine fun1_of_vc tb_ok mix (fn := Tryz.f136) Tryz.func136 rfl (by kernel_rfl) (by kernel_rfl) (by simp [Tryz.f136]) (by rfl) ?_
    (conv => whnf)
    exact ⟨close_bool rfl, trivial⟩
  | true =>
    refine fun1_of_vc tb_ok mix (fn := Tryz.f136) Tryz.func136 rfl (by kernel_rfl) (by kernel_rfl) (by simp [Tryz.f136]) (by rfl) ?_
    (conv => whnf)
    refine ⟨_, _, long_c t, lendA, ?_⟩; (conv => whnf)
    exact ⟨close_bool (by simp; omega), trivial⟩
theorem hasWrong_c (l : List Sh) (L : Nat) (hl : l.length ≤ 4294967296) (h : ∀ s ∈ l, s.have_ = true → s.text.size = L) : Fun1 Tryz.prog 101 [.one (.row true 2 (l.map Sh.enc)), .one (vN L)] (.one (.lit (.bool false))) := by
  have hc := containsSh_c l 136 [vN L] rfl (fun s => s.have_ && decide (s.text.size ≠ L)) hl (fun s _ => wrongFn_c s L)
  have hf : l.any (fun s => s.have_ && decide (s.text.size ≠ L)) = false := by
    rw [List.any_eq_false]
    intro s hs hh
    rw [Bool.and_eq_true] at hh
    exact absurd (h s hs hh.1) (by simpa using hh.2)
  rw [hf] at hc
  refine fun1_of_vc tb_ok mix (fn := Tryz.f101) Tryz.func101 rfl (by kernel_rfl) (by kernel_rfl) (by simp [Tryz.f101]) (by rfl) ?_
  (conv => whnf)
  refine ⟨_, _, hc, lends_cons (lend_one (la_row rfl rfl)) (lends_cons (lend_one (la_fn rfl (all2_cons (la_ptr rfl rfl rfl (all2_cons (la_lit rfl) all2_nil)) all2_nil))) lends_nil), ?_⟩; (conv => whnf)
  exact ⟨close_bool rfl, trivial⟩
theorem rem_nb (l : List ByteArray) (b : Bool) : (T.tup [(false, [.row true 1 (l.map eStr)]), (false, [.lit (.bool b)])]).nb = true := by
  have : AV.nb (4 + 1) (.row true 1 (l.map eStr)) = true := nb_map (n := 4) (fun y => rfl) _
  simp only [T.nb, List.all_cons, List.all_nil, this]; rfl
theorem remade_c {k m L : Nat} {l : List Sh} (hk : 1 ≤ k ∧ k ≤ 8) (hm : m ≤ 6) (hl : l.length = k + m) (hs : ∀ s ∈ l, s.have_ = true → s.text.size = L) (hL : L ≤ 1000000) (hn : k ≤ (idxS k m l).length) :
    Fun1 Tryz.prog 103 [.one (vN k), .one (vN m), .one (.row true 2 (l.map Sh.enc))] (.tup [(false, [.row true 1 ((combN (k + m) k (cauchyN k m).flatten (dataS k m L l) L).map eStr)]), (false, [.lit (.bool true)])]) := by
  have hil : (idxS k m l).length = k := Nat.le_antisymm (idxN_le _ _ _) hn
  have hmem : ∀ i ∈ idxS k m l, i < k + m := fun i hi => (idxN_mem hi).1
  have hP := pick_ok hk.2 hm hil hmem
  have hN := pick_ns hk.2 hm (idxN_cnt hn)
  have hI := invM_ok hP hN
  have hca := cauchyImpl_c hk hm
  have hpi := pick_c hk hm hil hmem
  have hinv := inverse_c hk hP hN
  have hIf : (invM k (pickM k m (idxS k m l))).flatten.length = k * k := by rw [flat_len' hI.wid, hI.len]
  have hIb : ∀ x ∈ (invM k (pickM k m (idxS k m l))).flatten, x < 256 := fun x hx => by
    obtain ⟨r, hr, hx⟩ := List.mem_flatten.1 hx
    exact hI.byt r hr x hx
  have htl := txsS_len k m l
  have c1 := combImpl_c k k L (invM k (pickM k m (idxS k m l))).flatten (txsS k m l) (by omega) (by omega) hIf hIb (by omega) (by omega) (by omega) (txsS_size hl hs) (by omega)
  have hdl : (dataS k m L l).length = k := combN_len _ _ _ _ _
  have c2 := combImpl_c (k + m) k L (cauchyN k m).flatten (dataS k m L l) (by omega) (by omega) (cauchy_cells k m) (cauchy_lt hk.2 hm) (by omega) (by omega) (by omega) combN_size (by omega)
  have hidx : idxS k m l = idxN k (k + m) (hasS l) := rfl
  have htxs : txsS k m l = (idxS k m l).map (txtS l) := rfl
  have hdat : dataS k m L l = combN k k (invM k (pickM k m (idxS k m l))).flatten (txsS k m l) L := rfl
  rw [← hdat] at c1
  obtain ⟨D, hD⟩ : ∃ D, dataS k m L l = D := ⟨_, rfl⟩
  obtain ⟨R, hR⟩ : ∃ R, combN (k + m) k (cauchyN k m).flatten D L = R := ⟨_, rfl⟩
  rw [hD, hR] at c2
  rw [hD] at c1 hdl
  rw [hD, hR]
  obtain ⟨M, hM⟩ : ∃ M, (invM k (pickM k m (idxS k m l))).flatten = M := ⟨_, rfl⟩
  rw [hM] at c1 hinv
  rw [htxs, hidx] at c1
  rw [hidx] at hpi hil hinv
  have h0 : idxN k 0 (hasS l) = [] := by simp [idxN]
  refine fun1_of_vc (E := tbO103) (tbF_ok _) mix (fn := Tryz.f103) Tryz.func103 rfl (by kernel_rfl) (by kernel_rfl) (by simp [Tryz.f103]) (by exact rem_nb _ _) ?_
  (conv => whnf)
  refine ⟨LG (fun i : Nat => i ≤ k + m) (fun i => k + m - i) (fun i => AS.of [(0, .one (vN k)), (1, .one (vN m)), (8, .one (.loc 528 0 (idxN k i (hasS l)).length)), (9, .one (.loc 608 0 (idxN k i (hasS l)).length)), (15, .one (.row true 2 (l.map Sh.enc))), (16, .one (vN (k + m))), (17, .one (vN i))] [(528, .row true 1 ((idxN k i (hasS l)).map eNat)), (608, .row true 1 (((idxN k i (hasS l)).map (txtS l)).map eStr))]),
    lg_init 0 (by omega) (weak_nil 8 528 1 rfl rfl (weak_nil 9 608 1 rfl rfl (weak_of (all_cons rfl (all_cons rfl (all_cons (eq_loc rfl (by simp [h0])) (all_cons (eq_loc rfl (by simp [h0])) (all_cons rfl (all_cons (eq_int rfl (by simp [hl])) (all_cons rfl all_nil))))))) (all_cons (eq_row rfl (by simp [h0])) (all_cons (eq_row rfl (by simp [h0])) all_nil)) rfl rfl))), ?_⟩
  rintro σ j ⟨i, hi, rfl, rfl⟩
  have hcl := idxN_le k i (hasS l)
  refine ⟨_, Weak.refl _, ?_⟩
  (conv => whnf)
  (split <;> rename_i hb <;> (try simp only [decide_eq_true_eq, decide_eq_false_iff_not, Bool.not_eq_true', Bool.not_eq_false', Bool.not_eq_true, Bool.not_eq_false, List.length_map] at hb) <;> conv => whnf)
  · have hlt : i < l.length := by omega
    have hh := hasS_at hlt
    have ht := txtS_at hlt
    obtain ⟨⟨hv, tx⟩, hse⟩ : ∃ s, l[i] = s := ⟨_, rfl⟩
    have hat : (l.map Sh.enc)[i]? = some (Sh.enc ⟨hv, tx⟩) := by rw [← hse]; exact at_map hlt
    rw [hse] at hh ht
    simp only at hh ht
    cases hv
    · have hsk := idxN_skip (k := k) (i := i) (h := hasS l) (.inl hh)
      refine ⟨i, rfl, _, hat, ?_⟩; (conv => whnf)
      (refine ⟨((i + 1 : Nat) : Int), by rw [← wrap64_id] <;> omega, ?_⟩; conv => whnf)
      exact lg_back (i + 1) (by omega) (by (try dsimp only); omega) (weak_of (all_cons rfl (all_cons rfl (all_cons (eq_loc rfl (by rw [hsk])) (all_cons (eq_loc rfl (by rw [hsk])) (all_cons rfl (all_cons rfl (all_cons rfl all_nil))))))) (all_cons (eq_row rfl (by rw [hsk])) (all_cons (eq_row rfl (by rw [hsk])) all_nil)) rfl rfl)
    · refine ⟨i, rfl, _, hat, ?_⟩; (conv => whnf)
      refine ⟨_, _, sizeInts_c ((idxN k i (hasS l)).map eNat), lends_cons (lend_one (la_loc rfl rfl rfl (by simp) rfl)) lends_nil, ?_⟩; (conv => whnf)
      (split <;> rename_i hb2 <;> (try simp only [decide_eq_true_eq, decide_eq_false_iff_not, Bool.not_eq_true', Bool.not_eq_false', Bool.not_eq_true, Bool.not_eq_false, List.length_map] at hb2) <;> conv => whnf)
      · have htk := idxN_take (k := k) (i := i) (h := hasS l) hh (by simpa using hb2)
        have hlt2 : (idxN k i (hasS l)).length < k := by simpa using hb2
        repeat' (first | exact trivial | (apply And.intro <;> conv => whnf) | (refine ⟨true, [eNat i], ⟨rfl, by simp [chunk], rfl, rfl⟩, ?_⟩; (conv => whnf); refine ⟨_, laid_map (f := eNat) (fun _ => rfl) [i], rfl, by simp, rfl, by simp [maxLen]; omega, by simp; omega, ?_⟩; (conv => whnf)) | (refine ⟨true, [eStr tx], ⟨rfl, by simp [chunk], rfl, rfl⟩, ?_⟩; (conv => whnf); refine ⟨_, laid_map (f := eStr) (fun _ => rfl) [tx], rfl, by simp, rfl, by simp [maxLen]; omega, by simp; omega, ?_⟩; (conv => whnf)))
        all_goals (refine ⟨((i + 1 : Nat) : Int), by rw [← wrap64_id] <;> omega, ?_⟩; conv => whnf)
        all_goals exact lg_back (i + 1) (by omega) (by (try dsimp only); omega) (weak_of (all_cons rfl (all_cons rfl (all_cons (eq_loc rfl (by rw [htk]; simp)) (all_cons (eq_loc rfl (by rw [htk]; simp)) (all_cons rfl (all_cons rfl (all_cons rfl all_nil))))))) (all_cons (eq_row rfl (by first | (rw [htk, List.map_append]; done) | (rw [htk, List.map_append]; rfl))) (all_cons (eq_row rfl (by first | (rw [htk, List.map_append, List.map_append, ← ht]; done) | (rw [htk, List.map_append, List.map_append, ← ht]; rfl))) all_nil)) rfl rfl)
      · have hsk := idxN_skip (k := k) (i := i) (h := hasS l) (.inr (by simpa using hb2))
        (refine ⟨((i + 1 : Nat) : Int), by rw [← wrap64_id] <;> omega, ?_⟩; conv => whnf)
        exact lg_back (i + 1) (by omega) (by (try dsimp only); omega) (weak_of (all_cons rfl (all_cons rfl (all_cons (eq_loc rfl (by rw [hsk])) (all_cons (eq_loc rfl (by rw [hsk])) (all_cons rfl (all_cons rfl (all_cons rfl all_nil))))))) (all_cons (eq_row rfl (by rw [hsk])) (all_cons (eq_row rfl (by rw [hsk])) all_nil)) rfl rfl)
  · have hik : i = k + m := by omega
    subst hik
    refine ⟨_, _, sizeInts_c ((idxN k (k + m) (hasS l)).map eNat), lends_cons (lend_one (la_loc rfl rfl rfl (by simp) rfl)) lends_nil, ?_⟩; (conv => whnf)
    (split <;> rename_i hb2 <;> (try simp only [decide_eq_true_eq, decide_eq_false_iff_not, Bool.not_eq_true', Bool.not_eq_false', Bool.not_eq_true, Bool.not_eq_false, List.length_map] at hb2) <;> conv => whnf)
    · exfalso; omega
    · refine ⟨_, _, hca, lendA, ?_⟩; (conv => whnf)
      refine ⟨_, _, hpi, lends_cons (lend_agg (all2_cons (la_int rfl) (all2_cons (la_int rfl) (all2_cons (la_loc rfl rfl rfl rfl rfl) all2_nil)))) (lends_cons (lend_one (la_loc rfl rfl rfl (by simp) rfl)) lends_nil), ?_⟩; (conv => whnf)
      refine ⟨_, _, hinv, lends_cons (lend_agg (all2_cons (la_int rfl) (all2_cons (la_int rfl) (all2_cons (la_loc rfl rfl rfl rfl rfl) all2_nil)))) lends_nil, ?_⟩; (conv => whnf)
      refine ⟨_, _, c1, lends_cons (lend_agg (all2_cons (la_int rfl) (all2_cons (la_int rfl) (all2_cons (la_loc rfl rfl rfl rfl rfl) all2_nil)))) (lends_cons (lend_one (la_loc rfl rfl rfl (by simp) rfl)) lends_nil), ?_⟩; (conv => whnf)
      refine ⟨_, _, c2, lends_cons (lend_agg (all2_cons (la_int rfl) (all2_cons (la_int rfl) (all2_cons (la_loc rfl rfl rfl rfl rfl) all2_nil)))) (lends_cons (lend_one (la_loc rfl rfl rfl rfl rfl)) lends_nil), ?_⟩; (conv => whnf)
      exact ⟨rfl, ⟨close_row rfl rfl rfl rfl, trivial⟩, rfl, ⟨close_bool rfl, trivial⟩, trivial⟩
end Go.Proofs.YthdejoipdgahiaaGreatDoor
namespace Go.Proofs.YthdejoipdgahiaaGreatDoor
open Go.RowKit
set_option linter.unusedSimpArgs false
set_option linter.unusedVariables false
set_option maxRecDepth 100000
set_option maxHeartbeats 4000000
theorem remadeNone_c {k m : Nat} {l : List Sh} (hk : 1 ≤ k ∧ k ≤ 8) (hm : m ≤ 6) (hl : l.length = k + m) (hn : (idxS k m l).length < k) :
    Fun1 Tryz.prog 103 [.one (vN k), .one (vN m), .one (.row true 2 (l.map Sh.enc))] (.tup [(false, [.row true 1 (([] : List ByteArray).map eStr)]), (false, [.lit (.bool false)])]) := by
  have hn' : (idxN k (k + m) (hasS l)).length < k := hn
  have h0 : idxN k 0 (hasS l) = [] := by simp [idxN]
  refine fun1_of_vc (E := tbO103) (tbF_ok _) mix (fn := Tryz.f103) Tryz.func103 rfl (by kernel_rfl) (by kernel_rfl) (by simp [Tryz.f103]) (by exact rem_nb _ _) ?_
  (conv => whnf)
  refine ⟨LG (fun i : Nat => i ≤ k + m) (fun i => k + m - i) (fun i => AS.of [(0, .one (vN k)), (1, .one (vN m)), (8, .one (.loc 528 0 (idxN k i (hasS l)).length)), (9, .one (.loc 608 0 (idxN k i (hasS l)).length)), (15, .one (.row true 2 (l.map Sh.enc))), (16, .one (vN (k + m))), (17, .one (vN i))] [(528, .row true 1 ((idxN k i (hasS l)).map eNat)), (608, .row true 1 (((idxN k i (hasS l)).map (txtS l)).map eStr))]),
    lg_init 0 (by omega) (weak_nil 8 528 1 rfl rfl (weak_nil 9 608 1 rfl rfl (weak_of (all_cons rfl (all_cons rfl (all_cons (eq_loc rfl (by simp [h0])) (all_cons (eq_loc rfl (by simp [h0])) (all_cons rfl (all_cons (eq_int rfl (by simp [hl])) (all_cons rfl all_nil))))))) (all_cons (eq_row rfl (by simp [h0])) (all_cons (eq_row rfl (by simp [h0])) all_nil)) rfl rfl))), ?_⟩
  rintro σ j ⟨i, hi, rfl, rfl⟩
  have hcl := idxN_le k i (hasS l)
  refine ⟨_, Weak.refl _, ?_⟩
  (conv => whnf)
  (split <;> rename_i hb <;> (try simp only [decide_eq_true_eq, decide_eq_false_iff_not, Bool.not_eq_true', Bool.not_eq_false', Bool.not_eq_true, Bool.not_eq_false, List.length_map] at hb) <;> conv => whnf)
  · have hlt : i < l.length := by omega
    have hh := hasS_at hlt
    have ht := txtS_at hlt
    obtain ⟨⟨hv, tx⟩, hse⟩ : ∃ s, l[i] = s := ⟨_, rfl⟩
    have hat : (l.map Sh.enc)[i]? = some (Sh.enc ⟨hv, tx⟩) := by rw [← hse]; exact at_map hlt
    rw [hse] at hh ht
    simp only at hh ht
    cases hv
    · have hsk := idxN_skip (k := k) (i := i) (h := hasS l) (.inl hh)
      refine ⟨i, rfl, _, hat, ?_⟩; (conv => whnf)
      (refine ⟨((i + 1 : Nat) : Int), by rw [← wrap64_id] <;> omega, ?_⟩; conv => whnf)
      exact lg_back (i + 1) (by omega) (by (try dsimp only); omega) (weak_of (all_cons rfl (all_cons rfl (all_cons (eq_loc rfl (by rw [hsk])) (all_cons (eq_loc rfl (by rw [hsk])) (all_cons rfl (all_cons rfl (all_cons rfl all_nil))))))) (all_cons (eq_row rfl (by rw [hsk])) (all_cons (eq_row rfl (by rw [hsk])) all_nil)) rfl rfl)
    · refine ⟨i, rfl, _, hat, ?_⟩; (conv => whnf)
      refine ⟨_, _, sizeInts_c ((idxN k i (hasS l)).map eNat), lends_cons (lend_one (la_loc rfl rfl rfl (by simp) rfl)) lends_nil, ?_⟩; (conv => whnf)
      (split <;> rename_i hb2 <;> (try simp only [decide_eq_true_eq, decide_eq_false_iff_not, Bool.not_eq_true', Bool.not_eq_false', Bool.not_eq_true, Bool.not_eq_false, List.length_map] at hb2) <;> conv => whnf)
      · have htk := idxN_take (k := k) (i := i) (h := hasS l) hh (by simpa using hb2)
        have hlt2 : (idxN k i (hasS l)).length < k := by simpa using hb2
        repeat' (first | exact trivial | (apply And.intro <;> conv => whnf) | (refine ⟨true, [eNat i], ⟨rfl, by simp [chunk], rfl, rfl⟩, ?_⟩; (conv => whnf); refine ⟨_, laid_map (f := eNat) (fun _ => rfl) [i], rfl, by simp, rfl, by simp [maxLen]; omega, by simp; omega, ?_⟩; (conv => whnf)) | (refine ⟨true, [eStr tx], ⟨rfl, by simp [chunk], rfl, rfl⟩, ?_⟩; (conv => whnf); refine ⟨_, laid_map (f := eStr) (fun _ => rfl) [tx], rfl, by simp, rfl, by simp [maxLen]; omega, by simp; omega, ?_⟩; (conv => whnf)))
        all_goals (refine ⟨((i + 1 : Nat) : Int), by rw [← wrap64_id] <;> omega, ?_⟩; conv => whnf)
        all_goals exact lg_back (i + 1) (by omega) (by (try dsimp only); omega) (weak_of (all_cons rfl (all_cons rfl (all_cons (eq_loc rfl (by rw [htk]; simp)) (all_cons (eq_loc rfl (by rw [htk]; simp)) (all_cons rfl (all_cons rfl (all_cons rfl all_nil))))))) (all_cons (eq_row rfl (by first | (rw [htk, List.map_append]; done) | (rw [htk, List.map_append]; rfl))) (all_cons (eq_row rfl (by first | (rw [htk, List.map_append, List.map_append, ← ht]; done) | (rw [htk, List.map_append, List.map_append, ← ht]; rfl))) all_nil)) rfl rfl)
      · have hsk := idxN_skip (k := k) (i := i) (h := hasS l) (.inr (by simpa using hb2))
        (refine ⟨((i + 1 : Nat) : Int), by rw [← wrap64_id] <;> omega, ?_⟩; conv => whnf)
        exact lg_back (i + 1) (by omega) (by (try dsimp only); omega) (weak_of (all_cons rfl (all_cons rfl (all_cons (eq_loc rfl (by rw [hsk])) (all_cons (eq_loc rfl (by rw [hsk])) (all_cons rfl (all_cons rfl (all_cons rfl all_nil))))))) (all_cons (eq_row rfl (by rw [hsk])) (all_cons (eq_row rfl (by rw [hsk])) all_nil)) rfl rfl)
  · have hik : i = k + m := by omega
    subst hik
    refine ⟨_, _, sizeInts_c ((idxN k (k + m) (hasS l)).map eNat), lends_cons (lend_one (la_loc rfl rfl rfl (by simp) rfl)) lends_nil, ?_⟩; (conv => whnf)
    (split <;> rename_i hb2 <;> (try simp only [decide_eq_true_eq, decide_eq_false_iff_not, Bool.not_eq_true', Bool.not_eq_false', Bool.not_eq_true, Bool.not_eq_false, List.length_map] at hb2) <;> conv => whnf)
    · exact ⟨rfl, ⟨close_nil rfl, trivial⟩, rfl, ⟨close_bool rfl, trivial⟩, trivial⟩
    · exfalso; omega
theorem catN_take {l : List ByteArray} {L size : Nat} (h : ∀ t ∈ l, t.size = L) (hs : size ≤ l.length * L) : (txtOf (catN l)).extract 0 size = txtOf ((catN l).take size) := by
  rw [extract_txt, List.drop_zero, Nat.sub_zero]; rfl
theorem decImpl_c {k m L size : Nat} {l : List Sh} (hk : 1 ≤ k ∧ k ≤ 8) (hm : m ≤ 6) (hl : l.length = k + m) (hz : size ≤ 20000) (hL : shN k size = L) (hs : ∀ s ∈ l, s.have_ = true → s.text.size = L) :
    Fun1 Tryz.prog 65 [.one (vN k), .one (vN m), .one (vN size), .one (.row true 2 (l.map Sh.enc))] (.agg [.lit (.string (decT k m L size l)), .lit (.int .i64 (decC k m l : Nat))]) := by
  have hb := shN_bounds (size := size) hk.1
  rw [hL] at hb
  have hw := hasWrong_c l L (by omega) hs
  have hsh := shardImpl_c hk hz
  rw [hL] at hsh
  have hmany := isManySh_c l
  have hcode := codeImpl_c k m
  rw [codeN hk hm] at hcode
  have hwi := within_c size 0 20000
  rw [show (decide ((0 : Int) ≤ (size : Int)) && decide ((size : Int) ≤ 20000)) = true by simp; omega] at hwi
  rw [show decide (400 < l.length) = false by simp; omega] at hmany
  by_cases hn : (idxS k m l).length < k
  · have hr := remadeNone_c hk hm hl hn
    rw [decT, decC, if_pos hn, if_pos hn]
    refine fun1_of_vc tb_ok mix (fn := Tryz.f65) Tryz.func65 rfl (by kernel_rfl) (by kernel_rfl) (by simp [Tryz.f65]) (by rfl) ?_
    (conv => whnf)
    refine ⟨_, _, hmany, lendA, ?_⟩; (conv => whnf)
    refine ⟨_, _, hcode, lendA, ?_⟩; (conv => whnf)
    refine ⟨_, _, hwi, lendA, ?_⟩; (conv => whnf)
    refine ⟨((k + m : Nat) : Int), by rw [← wrap64_id] <;> omega, ?_⟩; (conv => whnf)
    (split <;> rename_i hb2 <;> (try simp only [decide_eq_true_eq, decide_eq_false_iff_not, Bool.not_eq_true', Bool.not_eq_false', Bool.not_eq_true, Bool.not_eq_false, List.length_map] at hb2) <;> conv => whnf)
    · exfalso; apply hb2; simp [hl]
    refine ⟨_, _, hsh, lendA, ?_⟩; (conv => whnf)
    refine ⟨_, _, hw, lendA, ?_⟩; (conv => whnf)
    refine ⟨_, _, hr, lendA, ?_⟩; (conv => whnf)
    exact ⟨close_str rfl, close_int rfl, trivial⟩
  · have hr := remade_c hk hm hl hs (by omega) (by omega)
    have hil : (idxS k m l).length = k := Nat.le_antisymm (idxN_le _ _ _) (by omega)
    have htk : (combN (k + m) k (cauchyN k m).flatten (dataS k m L l) L).take k = dataS k m L l := comb_take (combN_len _ _ _ _ _) combN_size
    have hDl : (dataS k m L l).length = k := combN_len _ _ _ _ _
    have hcl : (catN (dataS k m L l)).length = k * L := by rw [catN_len (l := dataS k m L l) (L := L) combN_size, hDl]
    have hj := join_c (o := false) (dataS k m L l) (by omega) (by omega) (by omega)
    rw [decT, decC, if_neg hn, if_neg hn]
    have hcl2 := combN_len (k + m) k (cauchyN k m).flatten (dataS k m L l) L
    obtain ⟨R, hR⟩ : ∃ R, combN (k + m) k (cauchyN k m).flatten (dataS k m L l) L = R := ⟨_, rfl⟩
    obtain ⟨D, hD⟩ : ∃ D, dataS k m L l = D := ⟨_, rfl⟩
    rw [hR] at hr htk hcl2
    rw [hD] at hj htk hcl
    rw [hD]
    refine fun1_of_vc tb_ok mix (fn := Tryz.f65) Tryz.func65 rfl (by kernel_rfl) (by kernel_rfl) (by simp [Tryz.f65]) (by rfl) ?_
    (conv => whnf)
    refine ⟨_, _, hmany, lendA, ?_⟩; (conv => whnf)
    refine ⟨_, _, hcode, lendA, ?_⟩; (conv => whnf)
    refine ⟨_, _, hwi, lendA, ?_⟩; (conv => whnf)
    refine ⟨((k + m : Nat) : Int), by rw [← wrap64_id] <;> omega, ?_⟩; (conv => whnf)
    (split <;> rename_i hb2 <;> (try simp only [decide_eq_true_eq, decide_eq_false_iff_not, Bool.not_eq_true', Bool.not_eq_false', Bool.not_eq_true, Bool.not_eq_false, List.length_map] at hb2) <;> conv => whnf)
    · exfalso; apply hb2; simp [hl]
    refine ⟨_, _, hsh, lendA, ?_⟩; (conv => whnf)
    refine ⟨_, _, hw, lendA, ?_⟩; (conv => whnf)
    refine ⟨_, _, hr, lendA, ?_⟩; (conv => whnf)
    refine ⟨by simp only [Option.getD]; omega, by simp only [Option.getD, List.length_map]; omega, by simp only [Option.getD, List.length_map]; omega, ?_⟩; (conv => whnf)
    refine ⟨0, k, rfl, by simp only [Option.getD]; omega, ?_⟩; (conv => whnf)
    refine ⟨_, _, hj, lends_cons (lend_one (la_loc' rfl rfl (by simp; omega) (by rw [List.drop_zero, ← List.map_take, htk]))) (lends_cons (lend_one (la_lit rfl)) lends_nil), ?_⟩; (conv => whnf)
    refine ⟨by simp only [Option.getD]; omega, by simp only [Option.getD]; omega, by simp only [Option.getD, txtOf_size]; omega, ?_⟩; (conv => whnf)
    refine ⟨txtOf ((catN D).take size), (catN_take (L := L) (by rw [← hD]; exact combN_size) (by rw [← hD, hDl]; omega)).symm, ?_⟩; (conv => whnf)
    exact ⟨close_str rfl, close_int rfl, trivial⟩
end Go.Proofs.YthdejoipdgahiaaGreatDoor
namespace Go.Proofs.YthdejoipdgahiaaGreatDoor
open Go.RowKit
set_option linter.unusedSimpArgs false
set_option linter.unusedVariables false
set_option maxRecDepth 100000
set_option maxHeartbeats 4000000
def getI (t : ByteArray) (at_ : Nat) (R : Int × Nat × Nat) (p : Nat × Nat × Nat) : Prop := getF t at_ p.1 p.2.1 p.2.2 = R ∧ p.1 + p.2.1 = 10 ∧ 0 < p.1 ∧ p.2.2 < 128 ^ p.2.1
theorem and127b (b : UInt8) : bits .and .u8 (b.toNat : Int) 127 = ((b.toNat % 128 : Nat) : Int) := by
  have hb := b.toNat_lt
  show IntKind.u8.wrap ((BitVec.ofInt 8 (b.toNat : Int) &&& BitVec.ofInt 8 ((127 : Nat) : Int)).toNat : Int) = _
  rw [BitVec.toNat_and, ofIntN _ (by omega), ofIntN _ (by omega), show (127 : Nat) = 2 ^ 7 - 1 from rfl, Nat.and_two_pow_sub_one_eq_mod]
  rw [IntKind.wrap_u8]; omega
theorem or_add {u v k : Nat} (hu : u < 2 ^ k) (hs : u + v * 2 ^ k < 18446744073709551616) : bits .or .u64 (u : Int) ((v * 2 ^ k : Nat) : Int) = ((u + v * 2 ^ k : Nat) : Int) := by
  have h1 : u < 18446744073709551616 := by omega
  have h2 : v * 2 ^ k < 18446744073709551616 := by omega
  show IntKind.u64.wrap ((BitVec.ofInt 64 (u : Int) ||| BitVec.ofInt 64 ((v * 2 ^ k : Nat) : Int)).toNat : Int) = _
  rw [BitVec.toNat_or, ofIntN _ h1, ofIntN _ h2, Nat.or_comm, Nat.mul_comm, ← Nat.two_pow_add_eq_or_of_lt hu, Nat.add_comm, Nat.mul_comm]
  exact wrapU hs
theorem and1U {u : Nat} (h : u < 18446744073709551616) : bits .and .u64 (u : Int) 1 = ((u % 2 : Nat) : Int) := by
  show IntKind.u64.wrap ((BitVec.ofInt 64 (u : Int) &&& BitVec.ofInt 64 ((1 : Nat) : Int)).toNat : Int) = _
  rw [BitVec.toNat_and, ofIntN _ (by omega), ofIntN _ (by omega), show (1 : Nat) = 2 ^ 1 - 1 from rfl, Nat.and_two_pow_sub_one_eq_mod]
  exact wrapU (by omega)
theorem xorS {n m : Nat} (hn : n < 9223372036854775808) (hm : m < 2) : bits .xor .i64 (n : Int) (-(m : Int)) = if m = 1 then -(n : Int) - 1 else (n : Int) := by
  show IntKind.i64.wrap ((BitVec.ofInt 64 (n : Int) ^^^ BitVec.ofInt 64 (-(m : Int))).toNat : Int) = _
  obtain rfl | rfl : m = 0 ∨ m = 1 := by omega
  · rw [show (-((0 : Nat) : Int)) = ((0 : Nat) : Int) by omega, BitVec.toNat_xor, ofIntN _ (by omega), ofIntN _ (by omega), Nat.xor_zero, if_neg (by decide), IntKind.wrap_i64]; omega
  · rw [show BitVec.ofInt 64 (-((1 : Nat) : Int)) = BitVec.allOnes 64 by decide, BitVec.xor_allOnes, BitVec.toNat_not, ofIntN _ (by omega), if_pos rfl, IntKind.wrap_i64]; omega
theorem pow128 (i : Nat) : 128 ^ i = 2 ^ (7 * i) := by rw [Nat.pow_mul]
theorem pow_mono128 {i : Nat} (h : i ≤ 9) : 128 ^ i ≤ 9223372036854775808 := by
  have := Nat.pow_le_pow_right (show 0 < 128 by decide) h
  simpa using this
theorem unf_eq {u : Nat} : unfN u = if u % 2 = 1 then -((u / 2 : Nat) : Int) - 1 else ((u / 2 : Nat) : Int) := rfl
theorem shl_room {B : UInt8} {i u : Nat} (hi : i ≤ 9) (hu : u < 128 ^ i) (h : ¬ (i = 9 ∧ 1 < B.toNat)) : B.toNat % 128 * 2 ^ (7 * i) < 18446744073709551616 ∧ u + B.toNat % 128 * 2 ^ (7 * i) < 18446744073709551616 := by
  rw [← pow128]
  have hp := pow_mono128 hi
  have key : B.toNat % 128 * 128 ^ i ≤ 9223372036854775808 := by
    by_cases h9 : i = 9
    · subst h9
      have : B.toNat % 128 ≤ 1 := by omega
      have := Nat.mul_le_mul_right (128 ^ 9) this
      omega
    · have h8 : 128 ^ i ≤ 72057594037927936 := by
        have := Nat.pow_le_pow_right (show 0 < 128 by decide) (show i ≤ 8 by omega)
        simpa using this
      have := Nat.mul_le_mul (show B.toNat % 128 ≤ 127 by omega) h8
      omega
  omega
theorem shlv {v i : Nat} (hi : i ≤ 9) (h : v * 2 ^ (7 * i) < 18446744073709551616) : IntKind.u64.wrap ((v : Int) * 2 ^ (min ((7 * i : Nat) : Int).toNat 64)) = ((v * 2 ^ (7 * i) : Nat) : Int) := by
  rw [Int.toNat_natCast, Nat.min_eq_left (by omega), show ((v : Int) * 2 ^ (7 * i)) = ((v * 2 ^ (7 * i) : Nat) : Int) by rw [Int.natCast_mul, Int.natCast_pow]; rfl]
  exact wrapU h
theorem getImpl_c {t : ByteArray} {at_ : Nat} (ht : t.size ≤ 1000000) (ha : at_ ≤ 2000000) : Fun1 Tryz.prog 134 [.one (.lit (.string t)), .one (vN at_)] (.agg [.lit (.int .i64 (getN t at_).1), vN (getN t at_).2.1, vN (getN t at_).2.2]) := by
  obtain ⟨R, hRR⟩ : ∃ R, getN t at_ = R := ⟨_, rfl⟩
  rw [hRR]
  refine fun1_of_vc tb_ok mix (fn := Tryz.f134) Tryz.func134 rfl (by kernel_rfl) (by kernel_rfl) (by simp [Tryz.f134]) (by rfl) ?_
  (conv => whnf)
  refine ⟨LG (getI t at_ R) (fun p => p.1) (fun p => AS.of [(0, .one (.lit (.string t))), (1, .one (vN at_)), (4, .one (.ptr 64 0)), (5, .one (vU p.2.2)), (6, .one (vN p.2.1))] [(64, .var [.lit (.int .i64 0), .lit (.int .i64 0), .lit (.int .i64 0)])]),
    lg_init (10, 0, 0) ⟨hRR, rfl, by decide, by decide⟩ (weak_of allsA allsA rfl rfl), ?_⟩
  rintro σ k ⟨⟨f, i, u⟩, ⟨hR, hf, hf0, hu⟩, hk, rfl⟩
  simp only at hR hf hf0 hu hk
  obtain ⟨g, rfl⟩ : ∃ g, f = g + 1 := ⟨f - 1, by omega⟩
  have hpw := pow_mono128 (i := i) (by omega)
  rw [getF] at hR
  dsimp only
  refine ⟨_, Weak.refl _, ?_⟩
  (conv => whnf)
  refine ⟨_, _, long_c t, lendA, ?_⟩; (conv => whnf)
  refine ⟨(t.size : Int) - 1, by rw [← wrap64_id] <;> omega, ?_⟩; (conv => whnf)
  refine ⟨(t.size : Int) - 1 - (i : Int), by rw [← wrap64_id] <;> omega, ?_⟩; (conv => whnf)
  (split <;> rename_i hb <;> (try simp only [decide_eq_true_eq, decide_eq_false_iff_not, Bool.not_eq_true', Bool.not_eq_false', Bool.not_eq_true, Bool.not_eq_false, List.length_map] at hb) <;> conv => whnf)
  · rw [if_pos (by omega)] at hR
    subst hR
    exact ⟨close_int rfl, close_int rfl, close_int rfl, trivial⟩
  · rw [if_neg (by omega)] at hR
    refine ⟨((at_ + i : Nat) : Int), by rw [← wrap64_id] <;> omega, ?_⟩; (conv => whnf)
    refine ⟨at_ + i, rfl, by omega, ?_⟩; (conv => whnf)
    have hBd : byteAt t (at_ + i) = t.data.toList.getD (at_ + i) 0 := rfl
    obtain ⟨B, hB⟩ : ∃ B, t.data.toList.getD (at_ + i) 0 = B := ⟨_, rfl⟩
    rw [hBd, hB] at hR
    rw [hB, and127b]
    have hBl := B.toNat_lt
    refine ⟨((B.toNat % 128 : Nat) : Int), (wrapU (by omega)).symm, ?_⟩; (conv => whnf)
    refine ⟨((7 * i : Nat) : Int), by rw [← wrap64_id] <;> omega, ?_⟩; (conv => whnf)
    by_cases hE1 : i = 9 ∧ 1 < B.toNat
    · rw [if_pos (.inl hE1)] at hR
      subst hR
      refine ⟨by omega, _, rfl, ?_⟩; (conv => whnf)
      (repeat' (split <;> rename_i hb <;> (try simp only [decide_eq_true_eq, decide_eq_false_iff_not, Bool.not_eq_true', Bool.not_eq_false', Bool.not_eq_true, Bool.not_eq_false, List.length_map] at hb) <;> conv => whnf))
      all_goals first | (exfalso; omega) | exact ⟨close_int rfl, close_int rfl, close_int rfl, trivial⟩
    · obtain ⟨hv, hs⟩ := shl_room (B := B) (i := i) (u := u) (by omega) hu hE1
      refine ⟨by omega, _, (shlv (v := B.toNat % 128) (i := i) (by omega) hv).symm, ?_⟩; (conv => whnf)
      rw [or_add (u := u) (v := B.toNat % 128) (k := 7 * i) (by rw [← pow128]; exact hu) hs]
      have hU : u + B.toNat % 128 * 128 ^ i = u + B.toNat % 128 * 2 ^ (7 * i) := by rw [pow128]
      rw [hU] at hR
      by_cases hE2 : B.toNat = 0 ∧ 0 < i
      · rw [if_pos (.inr hE2)] at hR
        subst hR
        (repeat' (split <;> rename_i hb <;> (try simp only [decide_eq_true_eq, decide_eq_false_iff_not, Bool.not_eq_true', Bool.not_eq_false', Bool.not_eq_true, Bool.not_eq_false, List.length_map] at hb) <;> conv => whnf))
        all_goals first | (exfalso; omega) | exact ⟨close_int rfl, close_int rfl, close_int rfl, trivial⟩
      · rw [if_neg (by omega)] at hR
        by_cases hL : B.toNat < 128
        · rw [if_pos hL, show B.toNat * 128 ^ i = B.toNat % 128 * 2 ^ (7 * i) by rw [Nat.mod_eq_of_lt hL, pow128]] at hR
          obtain ⟨U, hUU⟩ : ∃ U, u + B.toNat % 128 * 2 ^ (7 * i) = U := ⟨_, rfl⟩
          rw [hUU] at hR hs ⊢
          subst hR
          (split <;> rename_i q1 <;> (try simp only [decide_eq_true_eq, decide_eq_false_iff_not, Bool.not_eq_true', Bool.not_eq_false', Bool.not_eq_true, Bool.not_eq_false, List.length_map] at q1) <;> conv => whnf)
          · (split <;> rename_i q2 <;> (try simp only [decide_eq_true_eq, decide_eq_false_iff_not, Bool.not_eq_true', Bool.not_eq_false', Bool.not_eq_true, Bool.not_eq_false, List.length_map] at q2) <;> conv => whnf)
            · exfalso; omega
            · (split <;> rename_i q3 <;> (try simp only [decide_eq_true_eq, decide_eq_false_iff_not, Bool.not_eq_true', Bool.not_eq_false', Bool.not_eq_true, Bool.not_eq_false, List.length_map] at q3) <;> conv => whnf)
              · (split <;> rename_i q4 <;> (try simp only [decide_eq_true_eq, decide_eq_false_iff_not, Bool.not_eq_true', Bool.not_eq_false', Bool.not_eq_true, Bool.not_eq_false, List.length_map] at q4) <;> conv => whnf)
                · exfalso; omega
                · (split <;> rename_i q5 <;> (try simp only [decide_eq_true_eq, decide_eq_false_iff_not, Bool.not_eq_true', Bool.not_eq_false', Bool.not_eq_true, Bool.not_eq_false, List.length_map] at q5) <;> conv => whnf)
                  · skip
                    refine ⟨by decide, ((U / 2 : Nat) : Int), ?_, ?_⟩
                    · show _ = (U : Int).fdiv (2 ^ 1)
                      rw [Int.fdiv_eq_ediv_of_nonneg _ (by omega)]; omega
                    (conv => whnf)
                    refine ⟨((U / 2 : Nat) : Int), (wrapN (by omega)).symm, ?_⟩; (conv => whnf)
                    refine ⟨((U % 2 : Nat) : Int), by rw [and1U hs]; exact (wrapN (by omega)).symm, ?_⟩; (conv => whnf)
                    refine ⟨-((U % 2 : Nat) : Int), by rw [← wrap64_id] <;> omega, ?_⟩; (conv => whnf)
                    refine ⟨((at_ + i : Nat) : Int), by rw [← wrap64_id] <;> omega, ?_⟩; (conv => whnf)
                    refine ⟨((at_ + i + 1 : Nat) : Int), by rw [← wrap64_id] <;> omega, ?_⟩; (conv => whnf)
                    exact ⟨close_int (by rw [xorS (n := U / 2) (m := U % 2) (by omega) (by omega)]; rfl), close_int rfl, close_int rfl, trivial⟩
                  · exfalso; omega
              · (split <;> rename_i q5 <;> (try simp only [decide_eq_true_eq, decide_eq_false_iff_not, Bool.not_eq_true', Bool.not_eq_false', Bool.not_eq_true, Bool.not_eq_false, List.length_map] at q5) <;> conv => whnf)
                · skip
                  refine ⟨by decide, ((U / 2 : Nat) : Int), ?_, ?_⟩
                  · show _ = (U : Int).fdiv (2 ^ 1)
                    rw [Int.fdiv_eq_ediv_of_nonneg _ (by omega)]; omega
                  (conv => whnf)
                  refine ⟨((U / 2 : Nat) : Int), (wrapN (by omega)).symm, ?_⟩; (conv => whnf)
                  refine ⟨((U % 2 : Nat) : Int), by rw [and1U hs]; exact (wrapN (by omega)).symm, ?_⟩; (conv => whnf)
                  refine ⟨-((U % 2 : Nat) : Int), by rw [← wrap64_id] <;> omega, ?_⟩; (conv => whnf)
                  refine ⟨((at_ + i : Nat) : Int), by rw [← wrap64_id] <;> omega, ?_⟩; (conv => whnf)
                  refine ⟨((at_ + i + 1 : Nat) : Int), by rw [← wrap64_id] <;> omega, ?_⟩; (conv => whnf)
                  exact ⟨close_int (by rw [xorS (n := U / 2) (m := U % 2) (by omega) (by omega)]; rfl), close_int rfl, close_int rfl, trivial⟩
                · exfalso; omega
          · (split <;> rename_i q3 <;> (try simp only [decide_eq_true_eq, decide_eq_false_iff_not, Bool.not_eq_true', Bool.not_eq_false', Bool.not_eq_true, Bool.not_eq_false, List.length_map] at q3) <;> conv => whnf)
            · (split <;> rename_i q4 <;> (try simp only [decide_eq_true_eq, decide_eq_false_iff_not, Bool.not_eq_true', Bool.not_eq_false', Bool.not_eq_true, Bool.not_eq_false, List.length_map] at q4) <;> conv => whnf)
              · exfalso; omega
              · (split <;> rename_i q5 <;> (try simp only [decide_eq_true_eq, decide_eq_false_iff_not, Bool.not_eq_true', Bool.not_eq_false', Bool.not_eq_true, Bool.not_eq_false, List.length_map] at q5) <;> conv => whnf)
                · skip
                  refine ⟨by decide, ((U / 2 : Nat) : Int), ?_, ?_⟩
                  · show _ = (U : Int).fdiv (2 ^ 1)
                    rw [Int.fdiv_eq_ediv_of_nonneg _ (by omega)]; omega
                  (conv => whnf)
                  refine ⟨((U / 2 : Nat) : Int), (wrapN (by omega)).symm, ?_⟩; (conv => whnf)
                  refine ⟨((U % 2 : Nat) : Int), by rw [and1U hs]; exact (wrapN (by omega)).symm, ?_⟩; (conv => whnf)
                  refine ⟨-((U % 2 : Nat) : Int), by rw [← wrap64_id] <;> omega, ?_⟩; (conv => whnf)
                  refine ⟨((at_ + i : Nat) : Int), by rw [← wrap64_id] <;> omega, ?_⟩; (conv => whnf)
                  refine ⟨((at_ + i + 1 : Nat) : Int), by rw [← wrap64_id] <;> omega, ?_⟩; (conv => whnf)
                  exact ⟨close_int (by rw [xorS (n := U / 2) (m := U % 2) (by omega) (by omega)]; rfl), close_int rfl, close_int rfl, trivial⟩
                · exfalso; omega
            · (split <;> rename_i q5 <;> (try simp only [decide_eq_true_eq, decide_eq_false_iff_not, Bool.not_eq_true', Bool.not_eq_false', Bool.not_eq_true, Bool.not_eq_false, List.length_map] at q5) <;> conv => whnf)
              · skip
                refine ⟨by decide, ((U / 2 : Nat) : Int), ?_, ?_⟩
                · show _ = (U : Int).fdiv (2 ^ 1)
                  rw [Int.fdiv_eq_ediv_of_nonneg _ (by omega)]; omega
                (conv => whnf)
                refine ⟨((U / 2 : Nat) : Int), (wrapN (by omega)).symm, ?_⟩; (conv => whnf)
                refine ⟨((U % 2 : Nat) : Int), by rw [and1U hs]; exact (wrapN (by omega)).symm, ?_⟩; (conv => whnf)
                refine ⟨-((U % 2 : Nat) : Int), by rw [← wrap64_id] <;> omega, ?_⟩; (conv => whnf)
                refine ⟨((at_ + i : Nat) : Int), by rw [← wrap64_id] <;> omega, ?_⟩; (conv => whnf)
                refine ⟨((at_ + i + 1 : Nat) : Int), by rw [← wrap64_id] <;> omega, ?_⟩; (conv => whnf)
                exact ⟨close_int (by rw [xorS (n := U / 2) (m := U % 2) (by omega) (by omega)]; rfl), close_int rfl, close_int rfl, trivial⟩
              · exfalso; omega
        · rw [if_neg hL] at hR
          (split <;> rename_i q1 <;> (try simp only [decide_eq_true_eq, decide_eq_false_iff_not, Bool.not_eq_true', Bool.not_eq_false', Bool.not_eq_true, Bool.not_eq_false, List.length_map] at q1) <;> conv => whnf)
          · exfalso; omega
          · (split <;> rename_i q3 <;> (try simp only [decide_eq_true_eq, decide_eq_false_iff_not, Bool.not_eq_true', Bool.not_eq_false', Bool.not_eq_true, Bool.not_eq_false, List.length_map] at q3) <;> conv => whnf)
            · exfalso; omega
            · (split <;> rename_i q5 <;> (try simp only [decide_eq_true_eq, decide_eq_false_iff_not, Bool.not_eq_true', Bool.not_eq_false', Bool.not_eq_true, Bool.not_eq_false, List.length_map] at q5) <;> conv => whnf)
              · exfalso; omega
              · (refine ⟨((i + 1 : Nat) : Int), by rw [← wrap64_id] <;> omega, ?_⟩; conv => whnf)
                exact lg_back (g, i + 1, u + B.toNat % 128 * 2 ^ (7 * i)) ⟨hR, by show g + (i + 1) = 10; omega, by show 0 < g; omega, by show u + B.toNat % 128 * 2 ^ (7 * i) < 128 ^ (i + 1); rw [← hU, Nat.pow_succ]; have := Nat.mul_le_mul_right (128 ^ i) (show B.toNat % 128 ≤ 127 by omega); omega⟩ (by show g < k; omega) (weak_of allsA allsA rfl rfl)
end Go.Proofs.YthdejoipdgahiaaGreatDoor
namespace Go.Proofs.YthdejoipdgahiaaGreatDoor
open Go.RowKit
set_option linter.unusedSimpArgs false
set_option linter.unusedVariables false
set_option maxRecDepth 100000
set_option maxHeartbeats 4000000
def Fr.enc (f : Fr) : List AV := [.lit (.int .i64 f.k), .lit (.int .i64 f.m), .lit (.int .i64 f.i), .lit (.int .i64 f.n), .lit (.string f.whole), .lit (.string f.text)]
def Rd.cells (t : ByteArray) (r : Rd) : List Value := [.string t, .int .i64 (r.at_ : Int), .bool r.bad]
theorem take_c {t : ByteArray} {r : Rd} {n : Nat} (ha : r.at_ ≤ t.size) (ht : t.size ≤ 1000000) (hn : n ≤ 1000000) :
    PtrF Tryz.prog 97 [] (r.cells t) ((takeR t n r).cells t) [.one (vN n)] (.one (.lit (.string (takeT t n r)))) := by
  obtain ⟨a, bad⟩ := r
  simp only at ha
  cases bad with
  | true =>
    rw [takeR, takeT, if_pos (.inl rfl), if_pos (.inl rfl)]
    dsimp only [Rd.cells]
    refine ptrf_of_vc (E := tb) tb_ok mix (fn := Tryz.f97) Tryz.func97 rfl (by kernel_rfl) (by kernel_rfl) (by simp [Tryz.f97]) (by rfl) rfl rfl (by first | (show 1 ≤ 7; decide) | (show 0 ≤ 7; decide)) rfl fun b => ?_
    (conv => whnf)
    exact ⟨⟨close_str rfl, trivial⟩, rfl, rfl⟩
  | false =>
    by_cases h : t.size < a + n
    · rw [takeR_short h, takeT, if_pos (.inr h)]
      dsimp only [Rd.cells]
      refine ptrf_of_vc (E := tb) tb_ok mix (fn := Tryz.f97) Tryz.func97 rfl (by kernel_rfl) (by kernel_rfl) (by simp [Tryz.f97]) (by rfl) rfl rfl (by first | (show 1 ≤ 7; decide) | (show 0 ≤ 7; decide)) rfl fun b => ?_
      (conv => whnf)
      refine ⟨_, _, long_c t, lendA, ?_⟩; (conv => whnf)
      refine ⟨(t.size : Int) - (a : Int), by rw [← wrap64_id] <;> omega, ?_⟩; (conv => whnf)
      (split <;> rename_i hb <;> (try simp only [decide_eq_true_eq, decide_eq_false_iff_not, Bool.not_eq_true', Bool.not_eq_false', Bool.not_eq_true, Bool.not_eq_false, List.length_map] at hb) <;> conv => whnf)
      · exact ⟨⟨close_str rfl, trivial⟩, rfl, rfl⟩
      · exfalso; omega
    · rw [takeR_good (by omega), takeT_good (by omega)]
      dsimp only [Rd.cells]
      refine ptrf_of_vc (E := tb) tb_ok mix (fn := Tryz.f97) Tryz.func97 rfl (by kernel_rfl) (by kernel_rfl) (by simp [Tryz.f97]) (by rfl) rfl rfl (by first | (show 1 ≤ 7; decide) | (show 0 ≤ 7; decide)) rfl fun b => ?_
      (conv => whnf)
      refine ⟨_, _, long_c t, lendA, ?_⟩; (conv => whnf)
      refine ⟨(t.size : Int) - (a : Int), by rw [← wrap64_id] <;> omega, ?_⟩; (conv => whnf)
      (split <;> rename_i hb <;> (try simp only [decide_eq_true_eq, decide_eq_false_iff_not, Bool.not_eq_true', Bool.not_eq_false', Bool.not_eq_true, Bool.not_eq_false, List.length_map] at hb) <;> conv => whnf)
      · exfalso; omega
      · refine ⟨((a + n : Nat) : Int), by rw [← wrap64_id] <;> omega, ?_⟩; (conv => whnf)
        refine ⟨(a : Int), by rw [← wrap64_id] <;> omega, ?_⟩; (conv => whnf)
        refine ⟨by simp only [Option.getD]; omega, by simp only [Option.getD]; omega, by simp only [Option.getD]; omega, ?_⟩; (conv => whnf)
        refine ⟨_, rfl, ?_⟩; (conv => whnf)
        exact ⟨⟨close_str rfl, trivial⟩, rfl, rfl⟩
theorem num_c {t : ByteArray} {r : Rd} (ha : r.at_ ≤ t.size) (ht : t.size ≤ 1000000) :
    PtrF Tryz.prog 98 [] (r.cells t) ((numR t r).cells t) [] (.one (.lit (.int .i64 (numV t r)))) := by
  obtain ⟨a, bad⟩ := r
  simp only at ha
  have hg := getImpl_c (t := t) (at_ := a) ht (by omega)
  cases bad with
  | true =>
    rw [numR, numV, if_pos (.inl rfl), if_pos (.inl rfl)]
    dsimp only [Rd.cells]
    refine ptrf_of_vc (E := tb) tb_ok mix (fn := Tryz.f98) Tryz.func98 rfl (by kernel_rfl) (by kernel_rfl) (by simp [Tryz.f98]) (by rfl) rfl rfl (by first | (show 1 ≤ 7; decide) | (show 0 ≤ 7; decide)) rfl fun b => ?_
    (conv => whnf)
    refine ⟨_, _, hg, lendA, ?_⟩; (conv => whnf)
    exact ⟨⟨close_int rfl, trivial⟩, rfl, rfl⟩
  | false =>
    by_cases h : (getN t a).2.2 = 0
    · rw [numR, numV, if_neg (by simpa using h), if_neg (by simpa using h)]
      obtain ⟨⟨v, e, c⟩, hv⟩ : ∃ x, getN t a = x := ⟨_, rfl⟩
      simp only [hv] at h hg ⊢
      subst h
      dsimp only [Rd.cells]
      refine ptrf_of_vc (E := tb) tb_ok mix (fn := Tryz.f98) Tryz.func98 rfl (by kernel_rfl) (by kernel_rfl) (by simp [Tryz.f98]) (by rfl) rfl rfl (by first | (show 1 ≤ 7; decide) | (show 0 ≤ 7; decide)) rfl fun b => ?_
      (conv => whnf)
      refine ⟨_, _, hg, lendA, ?_⟩; (conv => whnf)
      exact ⟨⟨close_int rfl, trivial⟩, rfl, rfl⟩
    · rw [numR, numV, if_pos (.inr h), if_pos (.inr h)]
      obtain ⟨⟨v, e, c⟩, hv⟩ : ∃ x, getN t a = x := ⟨_, rfl⟩
      simp only [hv] at h hg ⊢
      dsimp only [Rd.cells]
      refine ptrf_of_vc (E := tb) tb_ok mix (fn := Tryz.f98) Tryz.func98 rfl (by kernel_rfl) (by kernel_rfl) (by simp [Tryz.f98]) (by rfl) rfl rfl (by first | (show 1 ≤ 7; decide) | (show 0 ≤ 7; decide)) rfl fun b => ?_
      (conv => whnf)
      refine ⟨_, _, hg, lendA, ?_⟩; (conv => whnf)
      (split <;> rename_i hb <;> (try simp only [decide_eq_true_eq, decide_eq_false_iff_not, Bool.not_eq_true', Bool.not_eq_false', Bool.not_eq_true, Bool.not_eq_false, List.length_map] at hb) <;> conv => whnf)
      · exact ⟨⟨close_int rfl, trivial⟩, rfl, rfl⟩
      · exfalso; omega
theorem frRightI_c (f : Fr) : Fun1 Tryz.prog 99 [.agg f.enc] (.one (.lit (.bool f.right))) := by
  obtain ⟨k, m, i, n, wh, tx⟩ := f
  obtain ⟨R, hR⟩ : ∃ R, Fr.right ⟨k, m, i, n, wh, tx⟩ = R := ⟨_, rfl⟩
  rw [hR]
  dsimp only [Fr.enc]
  unfold Fr.right at hR
  simp only at hR
  have hc := codeImpl_c k m
  by_cases h1 : codeOk k m = true
  · have hk : 1 ≤ k ∧ k ≤ 8 ∧ 0 ≤ m ∧ m ≤ 6 := by
      unfold codeOk at h1
      simp only [Bool.and_eq_true, decide_eq_true_eq] at h1
      exact ⟨h1.1.1.1, h1.1.1.2, h1.1.2, h1.2⟩
    rw [h1] at hc hR
    have hi := within_c i 0 (k + m - 1)
    by_cases h2 : (decide (0 ≤ i) && decide (i ≤ k + m - 1)) = true
    · rw [h2] at hi hR
      have hn := within_c n 0 12000
      by_cases h3 : (decide (0 ≤ n) && decide (n ≤ 12000)) = true
      · rw [h3] at hn hR
        by_cases h4 : wh.size = 32
        · rw [decide_eq_true h4] at hR
          obtain ⟨k', rfl⟩ : ∃ k' : Nat, k = k' := ⟨k.toNat, by omega⟩
          simp only [Bool.and_eq_true, decide_eq_true_eq] at h3
          obtain ⟨n', rfl⟩ : ∃ n' : Nat, n = n' := ⟨n.toNat, by omega⟩
          rw [Int.toNat_natCast, Int.toNat_natCast] at hR
          refine fun1_of_vc tb_ok mix (fn := Tryz.f99) Tryz.func99 rfl (by kernel_rfl) (by kernel_rfl) (by simp [Tryz.f99]) (by rfl) ?_
          (conv => whnf)
          refine ⟨_, _, hc, lendA, ?_⟩; (conv => whnf)
          refine ⟨k' + m, by rw [← wrap64_id] <;> omega, ?_⟩; (conv => whnf)
          refine ⟨k' + m - 1, by rw [← wrap64_id] <;> omega, ?_⟩; (conv => whnf)
          refine ⟨_, _, hi, lendA, ?_⟩; (conv => whnf)
          refine ⟨_, _, hn, lendA, ?_⟩; (conv => whnf)
          (split <;> rename_i hb <;> (try simp only [decide_eq_true_eq, decide_eq_false_iff_not, Bool.not_eq_true', Bool.not_eq_false', Bool.not_eq_true, Bool.not_eq_false, List.length_map] at hb) <;> conv => whnf)
          · refine ⟨_, _, long_c tx, lendA, ?_⟩; (conv => whnf)
            refine ⟨_, _, shardImpl_c (k := k') (n := n') (by omega) (by omega), lendA, ?_⟩; (conv => whnf)
            exact ⟨close_bool (by rw [← hR]; simp; omega), trivial⟩
          · exfalso; apply hb; simp [h4]
        · refine fun1_of_vc tb_ok mix (fn := Tryz.f99) Tryz.func99 rfl (by kernel_rfl) (by kernel_rfl) (by simp [Tryz.f99]) (by rfl) ?_
          (conv => whnf)
          refine ⟨_, _, hc, lendA, ?_⟩; (conv => whnf)
          refine ⟨k + m, by rw [← wrap64_id] <;> omega, ?_⟩; (conv => whnf)
          refine ⟨k + m - 1, by rw [← wrap64_id] <;> omega, ?_⟩; (conv => whnf)
          refine ⟨_, _, hi, lendA, ?_⟩; (conv => whnf)
          refine ⟨_, _, hn, lendA, ?_⟩; (conv => whnf)
          (split <;> rename_i hb <;> (try simp only [decide_eq_true_eq, decide_eq_false_iff_not, Bool.not_eq_true', Bool.not_eq_false', Bool.not_eq_true, Bool.not_eq_false, List.length_map] at hb) <;> conv => whnf)
          · exfalso; omega
          · exact ⟨close_bool (by rw [← hR]; simp [h4]), trivial⟩
      · rw [Bool.eq_false_iff.2 h3] at hn hR
        refine fun1_of_vc tb_ok mix (fn := Tryz.f99) Tryz.func99 rfl (by kernel_rfl) (by kernel_rfl) (by simp [Tryz.f99]) (by rfl) ?_
        (conv => whnf)
        refine ⟨_, _, hc, lendA, ?_⟩; (conv => whnf)
        refine ⟨k + m, by rw [← wrap64_id] <;> omega, ?_⟩; (conv => whnf)
        refine ⟨k + m - 1, by rw [← wrap64_id] <;> omega, ?_⟩; (conv => whnf)
        refine ⟨_, _, hi, lendA, ?_⟩; (conv => whnf)
        refine ⟨_, _, hn, lendA, ?_⟩; (conv => whnf)
        exact ⟨close_bool (by rw [← hR]; simp), trivial⟩
    · rw [Bool.eq_false_iff.2 h2] at hi hR
      refine fun1_of_vc tb_ok mix (fn := Tryz.f99) Tryz.func99 rfl (by kernel_rfl) (by kernel_rfl) (by simp [Tryz.f99]) (by rfl) ?_
      (conv => whnf)
      refine ⟨_, _, hc, lendA, ?_⟩; (conv => whnf)
      refine ⟨k + m, by rw [← wrap64_id] <;> omega, ?_⟩; (conv => whnf)
      refine ⟨k + m - 1, by rw [← wrap64_id] <;> omega, ?_⟩; (conv => whnf)
      refine ⟨_, _, hi, lendA, ?_⟩; (conv => whnf)
      exact ⟨close_bool (by rw [← hR]; simp), trivial⟩
  · rw [Bool.eq_false_iff.2 h1] at hc hR
    refine fun1_of_vc tb_ok mix (fn := Tryz.f99) Tryz.func99 rfl (by kernel_rfl) (by kernel_rfl) (by simp [Tryz.f99]) (by rfl) ?_
    (conv => whnf)
    refine ⟨_, _, hc, lendA, ?_⟩; (conv => whnf)
    exact ⟨close_bool (by rw [← hR]; simp), trivial⟩
end Go.Proofs.YthdejoipdgahiaaGreatDoor
namespace Go.Proofs.YthdejoipdgahiaaGreatDoor
open Go.RowKit
set_option linter.unusedSimpArgs false
set_option linter.unusedVariables false
set_option maxRecDepth 100000
set_option maxHeartbeats 4000000
theorem read_walk {t S wh x tx : ByteArray} {k m i n : Int} {r0 r1 r2 r3 r4 r5 : Rd} {a6 a7 : Nat} {b6 b7 : Bool} (ht : t.size ≤ 100000) (ha : a6 ≤ t.size)
    (c0 : PtrF Tryz.prog 97 [] (Rd.cells t ⟨0, false⟩) (r0.cells t) [.one (vN 1)] (.one (.lit (.string S))))
    (c1 : PtrF Tryz.prog 98 [] (r0.cells t) (r1.cells t) [] (.one (.lit (.int .i64 k))))
    (c2 : PtrF Tryz.prog 98 [] (r1.cells t) (r2.cells t) [] (.one (.lit (.int .i64 m))))
    (c3 : PtrF Tryz.prog 98 [] (r2.cells t) (r3.cells t) [] (.one (.lit (.int .i64 i))))
    (c4 : PtrF Tryz.prog 98 [] (r3.cells t) (r4.cells t) [] (.one (.lit (.int .i64 n))))
    (c5 : PtrF Tryz.prog 97 [] (r4.cells t) (r5.cells t) [.one (vN 32)] (.one (.lit (.string wh))))
    (c6 : PtrF Tryz.prog 97 [] (r5.cells t) (Rd.cells t ⟨a6, b6⟩) [.one (vN 32)] (.one (.lit (.string x))))
    (c7 : PtrF Tryz.prog 97 [] (Rd.cells t ⟨a6, b6⟩) (Rd.cells t ⟨a7, b7⟩) [.one (vN (t.size - a6))] (.one (.lit (.string tx)))) :
    ∀ ok : Bool, ok = (!b7 && decide (S = ⟨#[70]⟩) && (Fr.mk k m i n wh tx).right && decide ((Fr.mk k m i n wh tx).bytes = t)) →
    Fun1 Tryz.prog 64 [.one (.lit (.string t))] (.tup [(true, (if ok = true then (Fr.mk k m i n wh tx) else Fr.zero).enc), (false, [.lit (.bool ok)])]) := by
  intro ok hok
  have hr := frRightI_c ⟨k, m, i, n, wh, tx⟩
  dsimp only [Rd.cells] at c0 c1 c2 c3 c4 c5 c6 c7
  dsimp only [Fr.enc] at hr
  cases b7 with
  | true =>
    have hf : ok = false := by rw [hok]; rfl
    rw [hf, if_neg (by decide)]
    refine fun1_of_vc tb_ok mix (fn := Tryz.f64) Tryz.func64 rfl (by kernel_rfl) (by kernel_rfl) (by simp [Tryz.f64]) (by rfl) ?_
    (conv => whnf)
    refine ⟨_, _, ptr_ok 0 c0 rfl rfl lendA (fun p hp => by cases hp) (fun x hx => by cases hx), ?_⟩; (conv => whnf)
    refine ⟨_, _, ptr_ok 0 c1 rfl rfl lendA (fun p hp => by cases hp) (fun x hx => by cases hx), ?_⟩; (conv => whnf)
    refine ⟨_, _, ptr_ok 0 c2 rfl rfl lendA (fun p hp => by cases hp) (fun x hx => by cases hx), ?_⟩; (conv => whnf)
    refine ⟨_, _, ptr_ok 0 c3 rfl rfl lendA (fun p hp => by cases hp) (fun x hx => by cases hx), ?_⟩; (conv => whnf)
    refine ⟨_, _, ptr_ok 0 c4 rfl rfl lendA (fun p hp => by cases hp) (fun x hx => by cases hx), ?_⟩; (conv => whnf)
    refine ⟨_, _, ptr_ok 0 c5 rfl rfl lendA (fun p hp => by cases hp) (fun x hx => by cases hx), ?_⟩; (conv => whnf)
    refine ⟨_, _, ptr_ok 0 c6 rfl rfl lendA (fun p hp => by cases hp) (fun x hx => by cases hx), ?_⟩; (conv => whnf)
    refine ⟨_, _, long_c t, lendA, ?_⟩; (conv => whnf)
    refine ⟨((t.size - a6 : Nat) : Int), by rw [← wrap64_id] <;> omega, ?_⟩; (conv => whnf)
    refine ⟨_, _, ptr_ok 0 c7 rfl rfl lendA (fun p hp => by cases hp) (fun x hx => by cases hx), ?_⟩; (conv => whnf)
    exact ⟨rfl, ⟨close_int rfl, close_int rfl, close_int rfl, close_int rfl, close_str rfl, close_str rfl, trivial⟩, rfl, ⟨close_bool rfl, trivial⟩, trivial⟩
  | false =>
    by_cases hS : S = ⟨#[70]⟩
    · subst hS
      cases hrt : (Fr.mk k m i n wh tx).right with
      | false =>
        have hf : ok = false := by rw [hok, hrt]; simp
        rw [hf, if_neg (by decide)]
        rw [hrt] at hr
        refine fun1_of_vc tb_ok mix (fn := Tryz.f64) Tryz.func64 rfl (by kernel_rfl) (by kernel_rfl) (by simp [Tryz.f64]) (by rfl) ?_
        (conv => whnf)
        refine ⟨_, _, ptr_ok 0 c0 rfl rfl lendA (fun p hp => by cases hp) (fun x hx => by cases hx), ?_⟩; (conv => whnf)
        refine ⟨_, _, ptr_ok 0 c1 rfl rfl lendA (fun p hp => by cases hp) (fun x hx => by cases hx), ?_⟩; (conv => whnf)
        refine ⟨_, _, ptr_ok 0 c2 rfl rfl lendA (fun p hp => by cases hp) (fun x hx => by cases hx), ?_⟩; (conv => whnf)
        refine ⟨_, _, ptr_ok 0 c3 rfl rfl lendA (fun p hp => by cases hp) (fun x hx => by cases hx), ?_⟩; (conv => whnf)
        refine ⟨_, _, ptr_ok 0 c4 rfl rfl lendA (fun p hp => by cases hp) (fun x hx => by cases hx), ?_⟩; (conv => whnf)
        refine ⟨_, _, ptr_ok 0 c5 rfl rfl lendA (fun p hp => by cases hp) (fun x hx => by cases hx), ?_⟩; (conv => whnf)
        refine ⟨_, _, ptr_ok 0 c6 rfl rfl lendA (fun p hp => by cases hp) (fun x hx => by cases hx), ?_⟩; (conv => whnf)
        refine ⟨_, _, long_c t, lendA, ?_⟩; (conv => whnf)
        refine ⟨((t.size - a6 : Nat) : Int), by rw [← wrap64_id] <;> omega, ?_⟩; (conv => whnf)
        refine ⟨_, _, ptr_ok 0 c7 rfl rfl lendA (fun p hp => by cases hp) (fun x hx => by cases hx), ?_⟩; (conv => whnf)
        refine ⟨_, _, hr, lendA, ?_⟩; (conv => whnf)
        exact ⟨rfl, ⟨close_int rfl, close_int rfl, close_int rfl, close_int rfl, close_str rfl, close_str rfl, trivial⟩, rfl, ⟨close_bool rfl, trivial⟩, trivial⟩
      | true =>
        obtain ⟨k', m', i', n', h1, h2, h3, h4, h5, h6, h7, h8, h9, h10, h11⟩ := Fr.right_iff.1 hrt
        simp only at h1 h2 h3 h4 h10 h11
        subst h1 h2 h3 h4
        have hsb := (shN_bounds (size := n') h5).2.2
        have hb := frameImpl_c (k := k') (m := m') (i := i') (n := n') (whole := wh) (text := tx) (by omega) (by omega) (by omega) (by omega) (by omega) (by omega)
        have hbe : (Fr.mk k' m' i' n' wh tx).bytes = frameN k' m' i' n' wh tx := by simp only [Fr.bytes, Int.toNat_natCast]
        rw [hrt] at hr
        rw [hbe, hrt] at hok
        obtain ⟨Z, hZ⟩ : ∃ Z, frameN k' m' i' n' wh tx = Z := ⟨_, rfl⟩
        rw [hZ] at hb hok
        by_cases he : Z = t
        · have hf : ok = true := by rw [hok, he]; simp
          rw [hf, if_pos rfl]
          refine fun1_of_vc tb_ok mix (fn := Tryz.f64) Tryz.func64 rfl (by kernel_rfl) (by kernel_rfl) (by simp [Tryz.f64]) (by rfl) ?_
          (conv => whnf)
          refine ⟨_, _, ptr_ok 0 c0 rfl rfl lendA (fun p hp => by cases hp) (fun x hx => by cases hx), ?_⟩; (conv => whnf)
          refine ⟨_, _, ptr_ok 0 c1 rfl rfl lendA (fun p hp => by cases hp) (fun x hx => by cases hx), ?_⟩; (conv => whnf)
          refine ⟨_, _, ptr_ok 0 c2 rfl rfl lendA (fun p hp => by cases hp) (fun x hx => by cases hx), ?_⟩; (conv => whnf)
          refine ⟨_, _, ptr_ok 0 c3 rfl rfl lendA (fun p hp => by cases hp) (fun x hx => by cases hx), ?_⟩; (conv => whnf)
          refine ⟨_, _, ptr_ok 0 c4 rfl rfl lendA (fun p hp => by cases hp) (fun x hx => by cases hx), ?_⟩; (conv => whnf)
          refine ⟨_, _, ptr_ok 0 c5 rfl rfl lendA (fun p hp => by cases hp) (fun x hx => by cases hx), ?_⟩; (conv => whnf)
          refine ⟨_, _, ptr_ok 0 c6 rfl rfl lendA (fun p hp => by cases hp) (fun x hx => by cases hx), ?_⟩; (conv => whnf)
          refine ⟨_, _, long_c t, lendA, ?_⟩; (conv => whnf)
          refine ⟨((t.size - a6 : Nat) : Int), by rw [← wrap64_id] <;> omega, ?_⟩; (conv => whnf)
          refine ⟨_, _, ptr_ok 0 c7 rfl rfl lendA (fun p hp => by cases hp) (fun x hx => by cases hx), ?_⟩; (conv => whnf)
          refine ⟨_, _, hr, lendA, ?_⟩; (conv => whnf)
          refine ⟨_, _, hb, lendA, ?_⟩; (conv => whnf)
          (split <;> rename_i q2 <;> (try simp only [decide_eq_true_eq, decide_eq_false_iff_not, Bool.not_eq_true', Bool.not_eq_false', Bool.not_eq_true, Bool.not_eq_false, List.length_map] at q2) <;> conv => whnf)
          · exfalso; exact q2 he
          exact ⟨rfl, ⟨close_int rfl, close_int rfl, close_int rfl, close_int rfl, close_str rfl, close_str rfl, trivial⟩, rfl, ⟨close_bool rfl, trivial⟩, trivial⟩
        · have hf : ok = false := by rw [hok]; simp [he]
          rw [hf, if_neg (by decide)]
          refine fun1_of_vc tb_ok mix (fn := Tryz.f64) Tryz.func64 rfl (by kernel_rfl) (by kernel_rfl) (by simp [Tryz.f64]) (by rfl) ?_
          (conv => whnf)
          refine ⟨_, _, ptr_ok 0 c0 rfl rfl lendA (fun p hp => by cases hp) (fun x hx => by cases hx), ?_⟩; (conv => whnf)
          refine ⟨_, _, ptr_ok 0 c1 rfl rfl lendA (fun p hp => by cases hp) (fun x hx => by cases hx), ?_⟩; (conv => whnf)
          refine ⟨_, _, ptr_ok 0 c2 rfl rfl lendA (fun p hp => by cases hp) (fun x hx => by cases hx), ?_⟩; (conv => whnf)
          refine ⟨_, _, ptr_ok 0 c3 rfl rfl lendA (fun p hp => by cases hp) (fun x hx => by cases hx), ?_⟩; (conv => whnf)
          refine ⟨_, _, ptr_ok 0 c4 rfl rfl lendA (fun p hp => by cases hp) (fun x hx => by cases hx), ?_⟩; (conv => whnf)
          refine ⟨_, _, ptr_ok 0 c5 rfl rfl lendA (fun p hp => by cases hp) (fun x hx => by cases hx), ?_⟩; (conv => whnf)
          refine ⟨_, _, ptr_ok 0 c6 rfl rfl lendA (fun p hp => by cases hp) (fun x hx => by cases hx), ?_⟩; (conv => whnf)
          refine ⟨_, _, long_c t, lendA, ?_⟩; (conv => whnf)
          refine ⟨((t.size - a6 : Nat) : Int), by rw [← wrap64_id] <;> omega, ?_⟩; (conv => whnf)
          refine ⟨_, _, ptr_ok 0 c7 rfl rfl lendA (fun p hp => by cases hp) (fun x hx => by cases hx), ?_⟩; (conv => whnf)
          refine ⟨_, _, hr, lendA, ?_⟩; (conv => whnf)
          refine ⟨_, _, hb, lendA, ?_⟩; (conv => whnf)
          (split <;> rename_i q2 <;> (try simp only [decide_eq_true_eq, decide_eq_false_iff_not, Bool.not_eq_true', Bool.not_eq_false', Bool.not_eq_true, Bool.not_eq_false, List.length_map] at q2) <;> conv => whnf)
          · exact ⟨rfl, ⟨close_int rfl, close_int rfl, close_int rfl, close_int rfl, close_str rfl, close_str rfl, trivial⟩, rfl, ⟨close_bool rfl, trivial⟩, trivial⟩
          · exfalso; exact he q2
    · have hf : ok = false := by rw [hok]; simp [hS]
      rw [hf, if_neg (by decide)]
      refine fun1_of_vc tb_ok mix (fn := Tryz.f64) Tryz.func64 rfl (by kernel_rfl) (by kernel_rfl) (by simp [Tryz.f64]) (by rfl) ?_
      (conv => whnf)
      refine ⟨_, _, ptr_ok 0 c0 rfl rfl lendA (fun p hp => by cases hp) (fun x hx => by cases hx), ?_⟩; (conv => whnf)
      refine ⟨_, _, ptr_ok 0 c1 rfl rfl lendA (fun p hp => by cases hp) (fun x hx => by cases hx), ?_⟩; (conv => whnf)
      refine ⟨_, _, ptr_ok 0 c2 rfl rfl lendA (fun p hp => by cases hp) (fun x hx => by cases hx), ?_⟩; (conv => whnf)
      refine ⟨_, _, ptr_ok 0 c3 rfl rfl lendA (fun p hp => by cases hp) (fun x hx => by cases hx), ?_⟩; (conv => whnf)
      refine ⟨_, _, ptr_ok 0 c4 rfl rfl lendA (fun p hp => by cases hp) (fun x hx => by cases hx), ?_⟩; (conv => whnf)
      refine ⟨_, _, ptr_ok 0 c5 rfl rfl lendA (fun p hp => by cases hp) (fun x hx => by cases hx), ?_⟩; (conv => whnf)
      refine ⟨_, _, ptr_ok 0 c6 rfl rfl lendA (fun p hp => by cases hp) (fun x hx => by cases hx), ?_⟩; (conv => whnf)
      refine ⟨_, _, long_c t, lendA, ?_⟩; (conv => whnf)
      refine ⟨((t.size - a6 : Nat) : Int), by rw [← wrap64_id] <;> omega, ?_⟩; (conv => whnf)
      refine ⟨_, _, ptr_ok 0 c7 rfl rfl lendA (fun p hp => by cases hp) (fun x hx => by cases hx), ?_⟩; (conv => whnf)
      (split <;> rename_i q1 <;> (try simp only [decide_eq_true_eq, decide_eq_false_iff_not, Bool.not_eq_true', Bool.not_eq_false', Bool.not_eq_true, Bool.not_eq_false, List.length_map] at q1) <;> conv => whnf)
      · exact ⟨rfl, ⟨close_int rfl, close_int rfl, close_int rfl, close_int rfl, close_str rfl, close_str rfl, trivial⟩, rfl, ⟨close_bool rfl, trivial⟩, trivial⟩
      · exfalso; exact hS q1
theorem readImpl_c {t : ByteArray} (ht : t.size ≤ 100000) : Fun1 Tryz.prog 64 [.one (.lit (.string t))] (.tup [(true, (readFr t).enc), (false, [.lit (.bool (readOk t))])]) := by
  have h7 : (rd6 t).at_ ≤ t.size := takeR_le (rdN_le t 4)
  have h8 : (rd7 t).at_ ≤ t.size := takeR_le h7
  exact read_walk (b6 := (rd7 t).bad) (b7 := (rd8 t).bad) (a7 := (rd8 t).at_) ht h8 (take_c (r := ⟨0, false⟩) (Nat.zero_le _) (by omega) (by omega)) (num_c (rdN_le t 0) (by omega)) (num_c (rdN_le t 1) (by omega)) (num_c (rdN_le t 2) (by omega)) (num_c (rdN_le t 3) (by omega))
    (take_c (rdN_le t 4) (by omega) (by omega)) (take_c h7 (by omega) (by omega)) (take_c h8 (by omega) (by omega)) (readOk t) rfl
end Go.Proofs.YthdejoipdgahiaaGreatDoor
namespace Go.Proofs.YthdejoipdgahiaaGreatDoor
open Go.RowKit
set_option linter.unusedSimpArgs false
set_option linter.unusedVariables false
set_option maxRecDepth 100000
set_option maxHeartbeats 8000000
def bE (b : Bool) : List AV := [.lit (.bool b)]
theorem updL_get {α : Type} {f : Nat → α} {d : α} {n i : Nat} (h : i < n) : (updL f d n i)[i]? = some d := by
  unfold updL
  rw [List.getElem?_append_right (by simp), List.length_map, List.length_range, Nat.sub_self, List.getElem?_replicate, if_pos (by omega)]
theorem updG {α : Type} {f : Nat → α} {d : α} {n i : Nat} (g : α → List AV) (h : i < n) : ((updL f d n i).map g)[0 + i]? = some (g d) := by rw [Nat.zero_add, List.getElem?_map, updL_get h]; rfl
theorem updS {α : Type} {f : Nat → α} {d x : α} {n i : Nat} (g : α → List AV) (h : i < n) (e : f i = x) : ((updL f d n i).map g).set (0 + i) (g x) = (updL f d n (i + 1)).map g := by
  rw [Nat.zero_add, ← e, ← updL_set h, List.map_set]
theorem updA {α : Type} {f : Nat → α} {d : α} {n i : Nat} (g : α → List AV) (h : i < n) : ((updL f d n n).map g)[0 + i]? = some (g (f i)) := by
  rw [Nat.zero_add, updL_full, List.getElem?_map, List.getElem?_map, List.getElem?_range h]; rfl
theorem updN {α : Type} {f : Nat → α} {d : α} {n i : Nat} (g : α → List AV) (h : i ≤ n) : ((updL f d n i).map g).length = n := by rw [List.length_map, updL_len h]
theorem drvL_at {ds : List DDrive} {i : Nat} (h : i < ds.length) : drvL ds i = ds[i] := by rw [drvL, List.getD_eq_getElem?_getD, List.getElem?_eq_getElem h]; rfl
theorem txtD_at {d : DDrive} {name : ByteArray} (h : findP d.files name < d.files.length) : txtD d name = (d.files[findP d.files name]).text := by
  rw [txtD, List.getElem?_eq_getElem h]; rfl
def objE (k m : Nat) (ds : List DDrive) (name : ByteArray) : List AV :=
  match stO k m (frO k m ds name) (k + m) with
  | some f => [.row true 1 ((updL (thereO ds name) false (k + m) (k + m)).map bE), .row true 1 ((updL (goodI (frO k m ds name) f) false (k + m) (k + m)).map bE), .lit (.string f.whole), .lit (.string (tryT k m (frO k m ds name) f)), .lit (.bool true)]
  | none => [.row true 1 ((updL (thereO ds name) false (k + m) (k + m)).map bE), .row true 1 ((List.replicate (k + m) false).map bE), .lit (.string .empty), .lit (.string .empty), .lit (.bool false)]
theorem objE_nb (k m : Nat) (ds : List DDrive) (name : ByteArray) : (T.agg (objE k m ds name)).nb = true := by
  have h : ∀ l : List Bool, AV.nb (4 + 1) (.row true 1 (l.map bE)) = true := fun l => nb_map (n := 4) (fun y => rfl) _
  unfold objE
  split <;> simp only [T.nb, List.all_cons, List.all_nil, h] <;> rfl
noncomputable def regOf (id : Nat) (x : Code) : Option (Array Oper) :=
  Code.rec (motive := fun _ => Option (Array Oper)) none (fun i ops _ => if i = id then some ops else none)
    (fun _ _ ix iy => match ix with | some o => some o | none => iy)
    (fun _ _ _ ix iy => match ix with | some o => some o | none => iy)
    (fun _ _ ix => ix) (fun _ ix => ix) (fun _ _ _ _ _ _ => none) (fun _ => none) (fun _ _ => none) (fun _ => none) (fun _ => none) none (fun _ => none) x
noncomputable def ops12 : Array Oper := match Tryz.f36.body with
  | some b => (regOf 12 b).getD #[]
  | none => #[]
theorem regA_ok {ops : Array Oper} (hops : ops = ops12) {k m n i : Nat} {ds : List DDrive} {name : ByteArray} {fk fm fi fn : Int} {fw ft : ByteArray} (hlt' : i < n) (hfe : frI ds name i = ⟨fk, fm, fi, fn, fw, ft⟩) (hif : isF k m ds name i = false) (Kn : AS → Prop)
    (hK : ∀ τ : AS, (∀ p ∈ ([(1, .one (.lit (.string name))), (2, .one (.ptr 32 0)), (4, .one (.ptr 64 0)), (5, .one (vN n)), (6, .one (.ptr 96 0)), (7, .one (.loc 496 0 n)), (8, .one (.loc 528 0 n)), (35, .one (.row false 2 (ds.map DDrive.enc))), (36, .one (vN n)), (37, .one (vN i))] : List (Nat × T)), τ.tm p.1 = p.2) → (∀ p ∈ ([(32, .var (DArray.enc ⟨k, m, ds⟩)), (64, .var [.lit (.slice none 0 0), .lit (.slice none 0 0), .lit (.string .empty), .lit (.string .empty), .lit (.bool false)]), (96, .var [.loc 416 0 n, .loc 448 0 n, .lit (.string .empty), .lit (.string .empty), .lit (.bool false)]), (416, .row true 1 ((updL (thereO ds name) false n (i + 1)).map bE)), (448, .row true 1 ((List.replicate n false).map bE)), (496, .row true 6 ((updL (frI ds name) Fr.zero n (i + 1)).map Fr.enc)), (528, .row true 1 ((updL (isF k m ds name) false n (i + 1)).map bE))] : List (Nat × Blk)), τ.mem p.1 = some p.2) → Kn τ) :
    vcReg Tryz.prog tbO36 12 ops (AS.of [(1, .one (.lit (.string name))), (2, .one (.ptr 32 0)), (4, .one (.ptr 64 0)), (5, .one (vN n)), (6, .one (.ptr 96 0)), (7, .one (.loc 496 0 n)), (8, .one (.loc 528 0 n)), (9, .one (vN i)), (13, .one (.ptr 208 0)), (14, .one (.lit (.bool false))), (35, .one (.row false 2 (ds.map DDrive.enc))), (36, .one (vN n)), (37, .one (vN i))] [(32, .var (DArray.enc ⟨k, m, ds⟩)), (64, .var [.lit (.slice none 0 0), .lit (.slice none 0 0), .lit (.string .empty), .lit (.string .empty), .lit (.bool false)]), (96, .var [.loc 416 0 n, .loc 448 0 n, .lit (.string .empty), .lit (.string .empty), .lit (.bool false)]), (416, .row true 1 ((updL (thereO ds name) false n (i + 1)).map bE)), (448, .row true 1 ((List.replicate n false).map bE)), (496, .row true 6 ((updL (frI ds name) Fr.zero n i).map Fr.enc)), (528, .row true 1 ((updL (isF k m ds name) false n i).map bE)), (208, .var [.lit (.int .i64 fk), .lit (.int .i64 fm), .lit (.int .i64 fi), .lit (.int .i64 fn), .lit (.string fw), .lit (.string ft)])]) Kn := by
  conv at hops => rhs; whnf
  subst hops
  (conv => whnf)
  repeat' (first | exact trivial | (apply And.intro <;> conv => whnf) | (refine ⟨i, rfl, by omega, ?_⟩; (conv => whnf)) | (refine ⟨_, updG (f := frI ds name) Fr.enc hlt', ?_⟩; (conv => whnf); refine ⟨_, rfl, ?_⟩; (conv => whnf)) | (refine ⟨_, updG (f := isF k m ds name) bE hlt', ?_⟩; (conv => whnf); refine ⟨_, rfl, ?_⟩; (conv => whnf)) | exact hK _ allsA (all_cons rfl (all_cons rfl (all_cons rfl (all_cons rfl (all_cons rfl (all_cons (eq_row rfl (updS Fr.enc hlt' hfe)) (all_cons (eq_row rfl (updS bE hlt' hif)) all_nil))))))))
theorem regD_ok {ops : Array Oper} (hops : ops = ops12) {k m n i : Nat} {ds : List DDrive} {name : ByteArray} {fk fm fi fn : Int} {fw ft : ByteArray} (hlt' : i < n) (hfe : frI ds name i = ⟨fk, fm, fi, fn, fw, ft⟩) (hd1 : decide (fk = (k : Int)) = true) (hd2 : decide (fm = (m : Int)) = true) (hif : isF k m ds name i = decide (fi = (i : Int))) (Kn : AS → Prop)
    (hK : ∀ τ : AS, (∀ p ∈ ([(1, .one (.lit (.string name))), (2, .one (.ptr 32 0)), (4, .one (.ptr 64 0)), (5, .one (vN n)), (6, .one (.ptr 96 0)), (7, .one (.loc 496 0 n)), (8, .one (.loc 528 0 n)), (35, .one (.row false 2 (ds.map DDrive.enc))), (36, .one (vN n)), (37, .one (vN i))] : List (Nat × T)), τ.tm p.1 = p.2) → (∀ p ∈ ([(32, .var (DArray.enc ⟨k, m, ds⟩)), (64, .var [.lit (.slice none 0 0), .lit (.slice none 0 0), .lit (.string .empty), .lit (.string .empty), .lit (.bool false)]), (96, .var [.loc 416 0 n, .loc 448 0 n, .lit (.string .empty), .lit (.string .empty), .lit (.bool false)]), (416, .row true 1 ((updL (thereO ds name) false n (i + 1)).map bE)), (448, .row true 1 ((List.replicate n false).map bE)), (496, .row true 6 ((updL (frI ds name) Fr.zero n (i + 1)).map Fr.enc)), (528, .row true 1 ((updL (isF k m ds name) false n (i + 1)).map bE))] : List (Nat × Blk)), τ.mem p.1 = some p.2) → Kn τ) :
    vcReg Tryz.prog tbO36 12 ops (AS.of [(1, .one (.lit (.string name))), (2, .one (.ptr 32 0)), (4, .one (.ptr 64 0)), (5, .one (vN n)), (6, .one (.ptr 96 0)), (7, .one (.loc 496 0 n)), (8, .one (.loc 528 0 n)), (9, .one (vN i)), (13, .one (.ptr 208 0)), (14, .one (.lit (.bool true))), (35, .one (.row false 2 (ds.map DDrive.enc))), (36, .one (vN n)), (37, .one (vN i))] [(32, .var (DArray.enc ⟨k, m, ds⟩)), (64, .var [.lit (.slice none 0 0), .lit (.slice none 0 0), .lit (.string .empty), .lit (.string .empty), .lit (.bool false)]), (96, .var [.loc 416 0 n, .loc 448 0 n, .lit (.string .empty), .lit (.string .empty), .lit (.bool false)]), (416, .row true 1 ((updL (thereO ds name) false n (i + 1)).map bE)), (448, .row true 1 ((List.replicate n false).map bE)), (496, .row true 6 ((updL (frI ds name) Fr.zero n i).map Fr.enc)), (528, .row true 1 ((updL (isF k m ds name) false n i).map bE)), (208, .var [.lit (.int .i64 fk), .lit (.int .i64 fm), .lit (.int .i64 fi), .lit (.int .i64 fn), .lit (.string fw), .lit (.string ft)])]) Kn := by
  conv at hops => rhs; whnf
  subst hops
  (conv => whnf)
  repeat' (first | exact trivial | (apply And.intro <;> conv => whnf) | (refine ⟨i, rfl, by omega, ?_⟩; (conv => whnf)) | (refine ⟨_, updG (f := frI ds name) Fr.enc hlt', ?_⟩; (conv => whnf); refine ⟨_, rfl, ?_⟩; (conv => whnf)) | (refine ⟨_, updG (f := isF k m ds name) bE hlt', ?_⟩; (conv => whnf); refine ⟨_, rfl, ?_⟩; (conv => whnf)) | exact hK _ allsA (all_cons rfl (all_cons rfl (all_cons rfl (all_cons rfl (all_cons rfl (all_cons (eq_row rfl (updS Fr.enc hlt' hfe)) (all_cons (eq_row rfl (updS bE hlt' hif)) all_nil))))))) | (simp only [hd1]; conv => whnf) | (simp only [hd2]; conv => whnf))
theorem regC_ok {ops : Array Oper} (hops : ops = ops12) {k m n i : Nat} {ds : List DDrive} {name : ByteArray} {fk fm fi fn : Int} {fw ft : ByteArray} (hlt' : i < n) (hfe : frI ds name i = ⟨fk, fm, fi, fn, fw, ft⟩) (hd1 : decide (fk = (k : Int)) = true) (hd2 : decide (fm = (m : Int)) = false) (hif : isF k m ds name i = false) (Kn : AS → Prop)
    (hK : ∀ τ : AS, (∀ p ∈ ([(1, .one (.lit (.string name))), (2, .one (.ptr 32 0)), (4, .one (.ptr 64 0)), (5, .one (vN n)), (6, .one (.ptr 96 0)), (7, .one (.loc 496 0 n)), (8, .one (.loc 528 0 n)), (35, .one (.row false 2 (ds.map DDrive.enc))), (36, .one (vN n)), (37, .one (vN i))] : List (Nat × T)), τ.tm p.1 = p.2) → (∀ p ∈ ([(32, .var (DArray.enc ⟨k, m, ds⟩)), (64, .var [.lit (.slice none 0 0), .lit (.slice none 0 0), .lit (.string .empty), .lit (.string .empty), .lit (.bool false)]), (96, .var [.loc 416 0 n, .loc 448 0 n, .lit (.string .empty), .lit (.string .empty), .lit (.bool false)]), (416, .row true 1 ((updL (thereO ds name) false n (i + 1)).map bE)), (448, .row true 1 ((List.replicate n false).map bE)), (496, .row true 6 ((updL (frI ds name) Fr.zero n (i + 1)).map Fr.enc)), (528, .row true 1 ((updL (isF k m ds name) false n (i + 1)).map bE))] : List (Nat × Blk)), τ.mem p.1 = some p.2) → Kn τ) :
    vcReg Tryz.prog tbO36 12 ops (AS.of [(1, .one (.lit (.string name))), (2, .one (.ptr 32 0)), (4, .one (.ptr 64 0)), (5, .one (vN n)), (6, .one (.ptr 96 0)), (7, .one (.loc 496 0 n)), (8, .one (.loc 528 0 n)), (9, .one (vN i)), (13, .one (.ptr 208 0)), (14, .one (.lit (.bool true))), (35, .one (.row false 2 (ds.map DDrive.enc))), (36, .one (vN n)), (37, .one (vN i))] [(32, .var (DArray.enc ⟨k, m, ds⟩)), (64, .var [.lit (.slice none 0 0), .lit (.slice none 0 0), .lit (.string .empty), .lit (.string .empty), .lit (.bool false)]), (96, .var [.loc 416 0 n, .loc 448 0 n, .lit (.string .empty), .lit (.string .empty), .lit (.bool false)]), (416, .row true 1 ((updL (thereO ds name) false n (i + 1)).map bE)), (448, .row true 1 ((List.replicate n false).map bE)), (496, .row true 6 ((updL (frI ds name) Fr.zero n i).map Fr.enc)), (528, .row true 1 ((updL (isF k m ds name) false n i).map bE)), (208, .var [.lit (.int .i64 fk), .lit (.int .i64 fm), .lit (.int .i64 fi), .lit (.int .i64 fn), .lit (.string fw), .lit (.string ft)])]) Kn := by
  conv at hops => rhs; whnf
  subst hops
  (conv => whnf)
  repeat' (first | exact trivial | (apply And.intro <;> conv => whnf) | (refine ⟨i, rfl, by omega, ?_⟩; (conv => whnf)) | (refine ⟨_, updG (f := frI ds name) Fr.enc hlt', ?_⟩; (conv => whnf); refine ⟨_, rfl, ?_⟩; (conv => whnf)) | (refine ⟨_, updG (f := isF k m ds name) bE hlt', ?_⟩; (conv => whnf); refine ⟨_, rfl, ?_⟩; (conv => whnf)) | exact hK _ allsA (all_cons rfl (all_cons rfl (all_cons rfl (all_cons rfl (all_cons rfl (all_cons (eq_row rfl (updS Fr.enc hlt' hfe)) (all_cons (eq_row rfl (updS bE hlt' hif)) all_nil))))))) | (simp only [hd1]; conv => whnf) | (simp only [hd2]; conv => whnf))
theorem regB_ok {ops : Array Oper} (hops : ops = ops12) {k m n i : Nat} {ds : List DDrive} {name : ByteArray} {fk fm fi fn : Int} {fw ft : ByteArray} (hlt' : i < n) (hfe : frI ds name i = ⟨fk, fm, fi, fn, fw, ft⟩) (hd1 : decide (fk = (k : Int)) = false) (hif : isF k m ds name i = false) (Kn : AS → Prop)
    (hK : ∀ τ : AS, (∀ p ∈ ([(1, .one (.lit (.string name))), (2, .one (.ptr 32 0)), (4, .one (.ptr 64 0)), (5, .one (vN n)), (6, .one (.ptr 96 0)), (7, .one (.loc 496 0 n)), (8, .one (.loc 528 0 n)), (35, .one (.row false 2 (ds.map DDrive.enc))), (36, .one (vN n)), (37, .one (vN i))] : List (Nat × T)), τ.tm p.1 = p.2) → (∀ p ∈ ([(32, .var (DArray.enc ⟨k, m, ds⟩)), (64, .var [.lit (.slice none 0 0), .lit (.slice none 0 0), .lit (.string .empty), .lit (.string .empty), .lit (.bool false)]), (96, .var [.loc 416 0 n, .loc 448 0 n, .lit (.string .empty), .lit (.string .empty), .lit (.bool false)]), (416, .row true 1 ((updL (thereO ds name) false n (i + 1)).map bE)), (448, .row true 1 ((List.replicate n false).map bE)), (496, .row true 6 ((updL (frI ds name) Fr.zero n (i + 1)).map Fr.enc)), (528, .row true 1 ((updL (isF k m ds name) false n (i + 1)).map bE))] : List (Nat × Blk)), τ.mem p.1 = some p.2) → Kn τ) :
    vcReg Tryz.prog tbO36 12 ops (AS.of [(1, .one (.lit (.string name))), (2, .one (.ptr 32 0)), (4, .one (.ptr 64 0)), (5, .one (vN n)), (6, .one (.ptr 96 0)), (7, .one (.loc 496 0 n)), (8, .one (.loc 528 0 n)), (9, .one (vN i)), (13, .one (.ptr 208 0)), (14, .one (.lit (.bool true))), (35, .one (.row false 2 (ds.map DDrive.enc))), (36, .one (vN n)), (37, .one (vN i))] [(32, .var (DArray.enc ⟨k, m, ds⟩)), (64, .var [.lit (.slice none 0 0), .lit (.slice none 0 0), .lit (.string .empty), .lit (.string .empty), .lit (.bool false)]), (96, .var [.loc 416 0 n, .loc 448 0 n, .lit (.string .empty), .lit (.string .empty), .lit (.bool false)]), (416, .row true 1 ((updL (thereO ds name) false n (i + 1)).map bE)), (448, .row true 1 ((List.replicate n false).map bE)), (496, .row true 6 ((updL (frI ds name) Fr.zero n i).map Fr.enc)), (528, .row true 1 ((updL (isF k m ds name) false n i).map bE)), (208, .var [.lit (.int .i64 fk), .lit (.int .i64 fm), .lit (.int .i64 fi), .lit (.int .i64 fn), .lit (.string fw), .lit (.string ft)])]) Kn := by
  conv at hops => rhs; whnf
  subst hops
  (conv => whnf)
  repeat' (first | exact trivial | (apply And.intro <;> conv => whnf) | (refine ⟨i, rfl, by omega, ?_⟩; (conv => whnf)) | (refine ⟨_, updG (f := frI ds name) Fr.enc hlt', ?_⟩; (conv => whnf); refine ⟨_, rfl, ?_⟩; (conv => whnf)) | (refine ⟨_, updG (f := isF k m ds name) bE hlt', ?_⟩; (conv => whnf); refine ⟨_, rfl, ?_⟩; (conv => whnf)) | exact hK _ allsA (all_cons rfl (all_cons rfl (all_cons rfl (all_cons rfl (all_cons rfl (all_cons (eq_row rfl (updS Fr.enc hlt' hfe)) (all_cons (eq_row rfl (updS bE hlt' hif)) all_nil))))))) | (simp only [hd1]; conv => whnf))
theorem objImpl_c {k m : Nat} {ds : List DDrive} {name : ByteArray} (hk : 1 ≤ k ∧ k ≤ 8) (hm : m ≤ 6) (hdl : ds.length = k + m) (hd : ∀ d ∈ ds, driveOk d = true) (hl : ∀ d ∈ ds, d.files.length ≤ 4294967296) (htx : ∀ d ∈ ds, ∀ f ∈ d.files, f.text.size ≤ 20000) :
    Fun1 Tryz.prog 36 [.agg (DArray.enc ⟨k, m, ds⟩), .one (.lit (.string name))] (.agg (objE k m ds name)) := by
  obtain ⟨n, hn⟩ : ∃ n, k + m = n := ⟨_, rfl⟩
  obtain ⟨fr, hfr⟩ : ∃ fr, frO k m ds name = fr := ⟨_, rfl⟩
  have hgood : ∀ j g, fr j = some g → FrG k m g ∧ isF k m ds name j = true ∧ g = frI ds name j := fun j g h => frO_good (by rw [hfr]; exact h)
  obtain ⟨R, hR⟩ : ∃ R, objE k m ds name = R := ⟨_, rfl⟩
  have hnb := objE_nb k m ds name
  rw [hR] at hnb ⊢
  unfold objE at hR
  rw [hfr, hn] at hR
  rw [hn] at hdl
  have hz : (List.map AV.lit [Value.int .i64 0, Value.int .i64 0, Value.int .i64 0, Value.int .i64 0, Value.string .empty, Value.string .empty]) = Fr.zero.enc := rfl
  refine fun1_of_vc (E := tbO36) (tbF_ok _) mix (fn := Tryz.f36) Tryz.func36 rfl (by kernel_rfl) (by kernel_rfl) (by simp [Tryz.f36]) (by exact hnb) ?_
  (conv => whnf)
  have hlen : (List.map DDrive.enc (DArray.mk (k : Int) (m : Int) ds).drives).length = n := by rw [List.length_map]; exact hdl
  refine ⟨n, by rw [hlen], Int.le_refl _, by rw [hlen]; omega, by rw [hlen]; simp only [maxLen]; omega, ?_⟩; (conv => whnf)
  refine ⟨n, by rw [hlen], Int.le_refl _, by rw [hlen]; omega, by rw [hlen]; simp only [maxLen]; omega, ?_⟩; (conv => whnf)
  refine ⟨n, by rw [hlen], by rw [hlen]; omega, by rw [hlen]; omega, by rw [hlen]; simp only [maxLen]; omega, ?_⟩; (conv => whnf)
  refine ⟨n, by rw [hlen], by rw [hlen]; omega, by rw [hlen]; omega, by rw [hlen]; simp only [maxLen]; omega, ?_⟩; (conv => whnf)
  refine ⟨LG (fun i : Nat => i ≤ n) (fun i => n - i) (fun i => AS.of [(1, .one (.lit (.string name))), (2, .one (.ptr 32 0)), (4, .one (.ptr 64 0)), (5, .one (vN n)), (6, .one (.ptr 96 0)), (7, .one (.loc 496 0 n)), (8, .one (.loc 528 0 n)), (35, .one (.row false 2 (ds.map DDrive.enc))), (36, .one (vN n)), (37, .one (vN i))]
    [(32, .var (DArray.enc ⟨k, m, ds⟩)), (64, .var [.lit (.slice none 0 0), .lit (.slice none 0 0), .lit (.string .empty), .lit (.string .empty), .lit (.bool false)]), (96, .var [.loc 416 0 n, .loc 448 0 n, .lit (.string .empty), .lit (.string .empty), .lit (.bool false)]), (416, .row true 1 ((updL (thereO ds name) false n i).map bE)), (448, .row true 1 ((List.replicate n false).map bE)), (496, .row true 6 ((updL (frI ds name) Fr.zero n i).map Fr.enc)), (528, .row true 1 ((updL (isF k m ds name) false n i).map bE))]),
    lg_init 0 (by omega) ?_, ?_⟩
  · refine weak_of (all_cons rfl (all_cons rfl (all_cons rfl (all_cons (eq_int rfl (by rw [hlen])) (all_cons rfl (all_cons (eq_loc rfl ?_) (all_cons (eq_loc rfl ?_) (all_cons rfl (all_cons (eq_int rfl (by rw [hlen])) (all_cons rfl all_nil)))))))))) (all_cons rfl (all_cons rfl (all_cons ?_ (all_cons (eq_row rfl ?_) (all_cons (eq_row rfl ?_) (all_cons (eq_row rfl ?_) (all_cons (eq_row rfl ?_) all_nil))))))) rfl rfl
    · rfl
    · rfl
    · rfl
    · rw [updL_zero, List.map_replicate]; rfl
    · rw [List.map_replicate]; rfl
    · rw [updL_zero, List.map_replicate]; rfl
    · rw [updL_zero, List.map_replicate]; rfl
  rintro σ j ⟨i, hi, rfl, rfl⟩
  refine ⟨_, Weak.refl _, ?_⟩
  (conv => whnf)
  (split <;> rename_i hb <;> (try simp only [decide_eq_true_eq, decide_eq_false_iff_not, Bool.not_eq_true', Bool.not_eq_false', Bool.not_eq_true, Bool.not_eq_false, List.length_map] at hb) <;> conv => whnf)
  · have hlt' : i < n := by omega
    have hlt : i < ds.length := by omega
    have hdv := drvL_at hlt
    have hmem := List.getElem_mem hlt
    have hfi := find_c ds[i] (hd _ hmem) name (hl _ hmem)
    have hth0 : thereO ds name i = hasN ds[i].files name := by rw [thereO, hdv]
    refine ⟨i, rfl, _, at_map hlt, ?_⟩; (conv => whnf)
    refine ⟨_, _, hfi, lends_cons (lend_bor rfl rfl) (lends_cons (lend_one (la_lit rfl)) lends_nil), ?_⟩; (conv => whnf)
    refine ⟨i, rfl, by omega, ?_⟩; (conv => whnf)
    refine ⟨_, updG (f := thereO ds name) bE hlt', ?_⟩; (conv => whnf)
    refine ⟨_, rfl, ?_⟩; (conv => whnf)
    cases hth : hasN ds[i].files name with
    | false =>
      rw [hth] at hth0
      have h1 : frI ds name i = Fr.zero := by rw [frI, hth0]; rfl
      have h2 : isF k m ds name i = false := by rw [isF, hth0]; rfl
      (conv => whnf)
      refine ⟨AS.of [(1, .one (.lit (.string name))), (2, .one (.ptr 32 0)), (4, .one (.ptr 64 0)), (5, .one (vN n)), (6, .one (.ptr 96 0)), (7, .one (.loc 496 0 n)), (8, .one (.loc 528 0 n)), (35, .one (.row false 2 (ds.map DDrive.enc))), (36, .one (vN n)), (37, .one (vN i))] [(32, .var (DArray.enc ⟨k, m, ds⟩)), (64, .var [.lit (.slice none 0 0), .lit (.slice none 0 0), .lit (.string .empty), .lit (.string .empty), .lit (.bool false)]), (96, .var [.loc 416 0 n, .loc 448 0 n, .lit (.string .empty), .lit (.string .empty), .lit (.bool false)]), (416, .row true 1 ((updL (thereO ds name) false n (i + 1)).map bE)), (448, .row true 1 ((List.replicate n false).map bE)), (496, .row true 6 ((updL (frI ds name) Fr.zero n (i + 1)).map Fr.enc)), (528, .row true 1 ((updL (isF k m ds name) false n (i + 1)).map bE))], weak_of allsA (all_cons rfl (all_cons rfl (all_cons rfl (all_cons (eq_row rfl (updS bE hlt' hth0)) (all_cons rfl (all_cons (eq_row rfl (by rw [updL_skip hlt' h1])) (all_cons (eq_row rfl (by rw [updL_skip hlt' h2])) all_nil))))))) rfl rfl, ?_⟩; (conv => whnf)
      (refine ⟨((i + 1 : Nat) : Int), by rw [← wrap64_id] <;> omega, ?_⟩; conv => whnf)
      exact lg_back (i + 1) (by omega) (by (try dsimp only); omega) (weak_of allsA allsA rfl rfl)
    | true =>
      obtain ⟨hfl, -, -⟩ := findI_eq (hd _ hmem) hth
      rw [hth] at hth0
      have htd := txtD_at hfl
      have hrd := readImpl_c (t := (ds[i].files[findP ds[i].files name]'hfl).text) (by have := htx _ hmem _ (List.getElem_mem hfl); omega)
      have hfe : frI ds name i = readFr (ds[i].files[findP ds[i].files name]'hfl).text := by rw [frI, if_pos hth0, hdv, htd]
      have hif : isF k m ds name i = (readOk (ds[i].files[findP ds[i].files name]'hfl).text && decide ((readFr (ds[i].files[findP ds[i].files name]'hfl).text).k = (k : Int)) && decide ((readFr (ds[i].files[findP ds[i].files name]'hfl).text).m = (m : Int)) && decide ((readFr (ds[i].files[findP ds[i].files name]'hfl).text).i = (i : Int))) := by rw [isF, hth0, hdv, htd]; rfl
      have hth := hth0
      obtain ⟨t, ht⟩ : ∃ t, (ds[i].files[findP ds[i].files name]'hfl).text = t := ⟨_, rfl⟩
      obtain ⟨F, hF⟩ : ∃ F, readFr t = F := ⟨_, rfl⟩
      obtain ⟨ok, hok⟩ : ∃ ok, readOk t = ok := ⟨_, rfl⟩
      rw [ht, hF] at hfe
      rw [ht, hF, hok] at hif
      rw [ht, hF, hok] at hrd
      obtain ⟨fk, fm, fi, fn, fw, ft⟩ := F
      simp only at hif
      dsimp only [Fr.enc] at hrd
      rw [← ht] at hrd
      cases ok with
      | false =>
        rw [Bool.false_and, Bool.false_and, Bool.false_and] at hif
        (conv => whnf)
        refine ⟨findP ds[i].files name, rfl, _, at_map hfl, ?_⟩; (conv => whnf)
        refine ⟨_, _, hrd, lends_cons (lend_one (la_lit rfl)) lends_nil, ?_⟩; (conv => whnf)
        refine ⟨AS.of [(1, .one (.lit (.string name))), (2, .one (.ptr 32 0)), (4, .one (.ptr 64 0)), (5, .one (vN n)), (6, .one (.ptr 96 0)), (7, .one (.loc 496 0 n)), (8, .one (.loc 528 0 n)), (9, .one (vN i)), (13, .one (.ptr 208 0)), (14, .one (.lit (.bool false))), (35, .one (.row false 2 (ds.map DDrive.enc))), (36, .one (vN n)), (37, .one (vN i))] [(32, .var (DArray.enc ⟨k, m, ds⟩)), (64, .var [.lit (.slice none 0 0), .lit (.slice none 0 0), .lit (.string .empty), .lit (.string .empty), .lit (.bool false)]), (96, .var [.loc 416 0 n, .loc 448 0 n, .lit (.string .empty), .lit (.string .empty), .lit (.bool false)]), (416, .row true 1 ((updL (thereO ds name) false n (i + 1)).map bE)), (448, .row true 1 ((List.replicate n false).map bE)), (496, .row true 6 ((updL (frI ds name) Fr.zero n i).map Fr.enc)), (528, .row true 1 ((updL (isF k m ds name) false n i).map bE)), (208, .var [.lit (.int .i64 fk), .lit (.int .i64 fm), .lit (.int .i64 fi), .lit (.int .i64 fn), .lit (.string fw), .lit (.string ft)])], weak_of allsA (all_cons rfl (all_cons rfl (all_cons rfl (all_cons (eq_row rfl (updS bE hlt' hth)) (all_cons rfl (all_cons rfl (all_cons rfl (all_cons rfl all_nil)))))))) rfl rfl, ?_⟩
        refine regA_ok (by kernel_rfl) hlt' hfe hif _ fun τ ht hm => ?_
        conv => whnf
        refine ⟨AS.of [(1, .one (.lit (.string name))), (2, .one (.ptr 32 0)), (4, .one (.ptr 64 0)), (5, .one (vN n)), (6, .one (.ptr 96 0)), (7, .one (.loc 496 0 n)), (8, .one (.loc 528 0 n)), (35, .one (.row false 2 (ds.map DDrive.enc))), (36, .one (vN n)), (37, .one (vN i))] [(32, .var (DArray.enc ⟨k, m, ds⟩)), (64, .var [.lit (.slice none 0 0), .lit (.slice none 0 0), .lit (.string .empty), .lit (.string .empty), .lit (.bool false)]), (96, .var [.loc 416 0 n, .loc 448 0 n, .lit (.string .empty), .lit (.string .empty), .lit (.bool false)]), (416, .row true 1 ((updL (thereO ds name) false n (i + 1)).map bE)), (448, .row true 1 ((List.replicate n false).map bE)), (496, .row true 6 ((updL (frI ds name) Fr.zero n (i + 1)).map Fr.enc)), (528, .row true 1 ((updL (isF k m ds name) false n (i + 1)).map bE))], weak_of ht hm rfl rfl, ?_⟩; (conv => whnf)
        (refine ⟨((i + 1 : Nat) : Int), by rw [← wrap64_id] <;> omega, ?_⟩; conv => whnf)
        exact lg_back (i + 1) (by omega) (by (try dsimp only); omega) (weak_of allsA allsA rfl rfl)
      | true =>
        rw [Bool.true_and] at hif
        by_cases hk1 : fk = (k : Int)
        · by_cases hm1 : fm = (m : Int)
          · have hd1 := decide_eq_true hk1
            have hd2 := decide_eq_true hm1
            rw [decide_eq_true hk1, decide_eq_true hm1, Bool.true_and, Bool.true_and] at hif
            (conv => whnf)
            refine ⟨findP ds[i].files name, rfl, _, at_map hfl, ?_⟩; (conv => whnf)
            refine ⟨_, _, hrd, lends_cons (lend_one (la_lit rfl)) lends_nil, ?_⟩; (conv => whnf)
            refine ⟨AS.of [(1, .one (.lit (.string name))), (2, .one (.ptr 32 0)), (4, .one (.ptr 64 0)), (5, .one (vN n)), (6, .one (.ptr 96 0)), (7, .one (.loc 496 0 n)), (8, .one (.loc 528 0 n)), (9, .one (vN i)), (13, .one (.ptr 208 0)), (14, .one (.lit (.bool true))), (35, .one (.row false 2 (ds.map DDrive.enc))), (36, .one (vN n)), (37, .one (vN i))] [(32, .var (DArray.enc ⟨k, m, ds⟩)), (64, .var [.lit (.slice none 0 0), .lit (.slice none 0 0), .lit (.string .empty), .lit (.string .empty), .lit (.bool false)]), (96, .var [.loc 416 0 n, .loc 448 0 n, .lit (.string .empty), .lit (.string .empty), .lit (.bool false)]), (416, .row true 1 ((updL (thereO ds name) false n (i + 1)).map bE)), (448, .row true 1 ((List.replicate n false).map bE)), (496, .row true 6 ((updL (frI ds name) Fr.zero n i).map Fr.enc)), (528, .row true 1 ((updL (isF k m ds name) false n i).map bE)), (208, .var [.lit (.int .i64 fk), .lit (.int .i64 fm), .lit (.int .i64 fi), .lit (.int .i64 fn), .lit (.string fw), .lit (.string ft)])], weak_of allsA (all_cons rfl (all_cons rfl (all_cons rfl (all_cons (eq_row rfl (updS bE hlt' hth)) (all_cons rfl (all_cons rfl (all_cons rfl (all_cons rfl all_nil)))))))) rfl rfl, ?_⟩
            refine regD_ok (by kernel_rfl) hlt' hfe hd1 hd2 hif _ fun τ ht hm => ?_
            conv => whnf
            refine ⟨AS.of [(1, .one (.lit (.string name))), (2, .one (.ptr 32 0)), (4, .one (.ptr 64 0)), (5, .one (vN n)), (6, .one (.ptr 96 0)), (7, .one (.loc 496 0 n)), (8, .one (.loc 528 0 n)), (35, .one (.row false 2 (ds.map DDrive.enc))), (36, .one (vN n)), (37, .one (vN i))] [(32, .var (DArray.enc ⟨k, m, ds⟩)), (64, .var [.lit (.slice none 0 0), .lit (.slice none 0 0), .lit (.string .empty), .lit (.string .empty), .lit (.bool false)]), (96, .var [.loc 416 0 n, .loc 448 0 n, .lit (.string .empty), .lit (.string .empty), .lit (.bool false)]), (416, .row true 1 ((updL (thereO ds name) false n (i + 1)).map bE)), (448, .row true 1 ((List.replicate n false).map bE)), (496, .row true 6 ((updL (frI ds name) Fr.zero n (i + 1)).map Fr.enc)), (528, .row true 1 ((updL (isF k m ds name) false n (i + 1)).map bE))], weak_of ht hm rfl rfl, ?_⟩; (conv => whnf)
            (refine ⟨((i + 1 : Nat) : Int), by rw [← wrap64_id] <;> omega, ?_⟩; conv => whnf)
            exact lg_back (i + 1) (by omega) (by (try dsimp only); omega) (weak_of allsA allsA rfl rfl)
          · have hd1 := decide_eq_true hk1
            have hd2 := decide_eq_false hm1
            rw [decide_eq_true hk1, decide_eq_false hm1, Bool.true_and, Bool.false_and] at hif
            (conv => whnf)
            refine ⟨findP ds[i].files name, rfl, _, at_map hfl, ?_⟩; (conv => whnf)
            refine ⟨_, _, hrd, lends_cons (lend_one (la_lit rfl)) lends_nil, ?_⟩; (conv => whnf)
            refine ⟨AS.of [(1, .one (.lit (.string name))), (2, .one (.ptr 32 0)), (4, .one (.ptr 64 0)), (5, .one (vN n)), (6, .one (.ptr 96 0)), (7, .one (.loc 496 0 n)), (8, .one (.loc 528 0 n)), (9, .one (vN i)), (13, .one (.ptr 208 0)), (14, .one (.lit (.bool true))), (35, .one (.row false 2 (ds.map DDrive.enc))), (36, .one (vN n)), (37, .one (vN i))] [(32, .var (DArray.enc ⟨k, m, ds⟩)), (64, .var [.lit (.slice none 0 0), .lit (.slice none 0 0), .lit (.string .empty), .lit (.string .empty), .lit (.bool false)]), (96, .var [.loc 416 0 n, .loc 448 0 n, .lit (.string .empty), .lit (.string .empty), .lit (.bool false)]), (416, .row true 1 ((updL (thereO ds name) false n (i + 1)).map bE)), (448, .row true 1 ((List.replicate n false).map bE)), (496, .row true 6 ((updL (frI ds name) Fr.zero n i).map Fr.enc)), (528, .row true 1 ((updL (isF k m ds name) false n i).map bE)), (208, .var [.lit (.int .i64 fk), .lit (.int .i64 fm), .lit (.int .i64 fi), .lit (.int .i64 fn), .lit (.string fw), .lit (.string ft)])], weak_of allsA (all_cons rfl (all_cons rfl (all_cons rfl (all_cons (eq_row rfl (updS bE hlt' hth)) (all_cons rfl (all_cons rfl (all_cons rfl (all_cons rfl all_nil)))))))) rfl rfl, ?_⟩
            refine regC_ok (by kernel_rfl) hlt' hfe hd1 hd2 hif _ fun τ ht hm => ?_
            conv => whnf
            refine ⟨AS.of [(1, .one (.lit (.string name))), (2, .one (.ptr 32 0)), (4, .one (.ptr 64 0)), (5, .one (vN n)), (6, .one (.ptr 96 0)), (7, .one (.loc 496 0 n)), (8, .one (.loc 528 0 n)), (35, .one (.row false 2 (ds.map DDrive.enc))), (36, .one (vN n)), (37, .one (vN i))] [(32, .var (DArray.enc ⟨k, m, ds⟩)), (64, .var [.lit (.slice none 0 0), .lit (.slice none 0 0), .lit (.string .empty), .lit (.string .empty), .lit (.bool false)]), (96, .var [.loc 416 0 n, .loc 448 0 n, .lit (.string .empty), .lit (.string .empty), .lit (.bool false)]), (416, .row true 1 ((updL (thereO ds name) false n (i + 1)).map bE)), (448, .row true 1 ((List.replicate n false).map bE)), (496, .row true 6 ((updL (frI ds name) Fr.zero n (i + 1)).map Fr.enc)), (528, .row true 1 ((updL (isF k m ds name) false n (i + 1)).map bE))], weak_of ht hm rfl rfl, ?_⟩; (conv => whnf)
            (refine ⟨((i + 1 : Nat) : Int), by rw [← wrap64_id] <;> omega, ?_⟩; conv => whnf)
            exact lg_back (i + 1) (by omega) (by (try dsimp only); omega) (weak_of allsA allsA rfl rfl)
        · have hd1 := decide_eq_false hk1
          rw [decide_eq_false hk1, Bool.false_and, Bool.false_and] at hif
          (conv => whnf)
          refine ⟨findP ds[i].files name, rfl, _, at_map hfl, ?_⟩; (conv => whnf)
          refine ⟨_, _, hrd, lends_cons (lend_one (la_lit rfl)) lends_nil, ?_⟩; (conv => whnf)
          refine ⟨AS.of [(1, .one (.lit (.string name))), (2, .one (.ptr 32 0)), (4, .one (.ptr 64 0)), (5, .one (vN n)), (6, .one (.ptr 96 0)), (7, .one (.loc 496 0 n)), (8, .one (.loc 528 0 n)), (9, .one (vN i)), (13, .one (.ptr 208 0)), (14, .one (.lit (.bool true))), (35, .one (.row false 2 (ds.map DDrive.enc))), (36, .one (vN n)), (37, .one (vN i))] [(32, .var (DArray.enc ⟨k, m, ds⟩)), (64, .var [.lit (.slice none 0 0), .lit (.slice none 0 0), .lit (.string .empty), .lit (.string .empty), .lit (.bool false)]), (96, .var [.loc 416 0 n, .loc 448 0 n, .lit (.string .empty), .lit (.string .empty), .lit (.bool false)]), (416, .row true 1 ((updL (thereO ds name) false n (i + 1)).map bE)), (448, .row true 1 ((List.replicate n false).map bE)), (496, .row true 6 ((updL (frI ds name) Fr.zero n i).map Fr.enc)), (528, .row true 1 ((updL (isF k m ds name) false n i).map bE)), (208, .var [.lit (.int .i64 fk), .lit (.int .i64 fm), .lit (.int .i64 fi), .lit (.int .i64 fn), .lit (.string fw), .lit (.string ft)])], weak_of allsA (all_cons rfl (all_cons rfl (all_cons rfl (all_cons (eq_row rfl (updS bE hlt' hth)) (all_cons rfl (all_cons rfl (all_cons rfl (all_cons rfl all_nil)))))))) rfl rfl, ?_⟩
          refine regB_ok (by kernel_rfl) hlt' hfe hd1 hif _ fun τ ht hm => ?_
          conv => whnf
          refine ⟨AS.of [(1, .one (.lit (.string name))), (2, .one (.ptr 32 0)), (4, .one (.ptr 64 0)), (5, .one (vN n)), (6, .one (.ptr 96 0)), (7, .one (.loc 496 0 n)), (8, .one (.loc 528 0 n)), (35, .one (.row false 2 (ds.map DDrive.enc))), (36, .one (vN n)), (37, .one (vN i))] [(32, .var (DArray.enc ⟨k, m, ds⟩)), (64, .var [.lit (.slice none 0 0), .lit (.slice none 0 0), .lit (.string .empty), .lit (.string .empty), .lit (.bool false)]), (96, .var [.loc 416 0 n, .loc 448 0 n, .lit (.string .empty), .lit (.string .empty), .lit (.bool false)]), (416, .row true 1 ((updL (thereO ds name) false n (i + 1)).map bE)), (448, .row true 1 ((List.replicate n false).map bE)), (496, .row true 6 ((updL (frI ds name) Fr.zero n (i + 1)).map Fr.enc)), (528, .row true 1 ((updL (isF k m ds name) false n (i + 1)).map bE))], weak_of ht hm rfl rfl, ?_⟩; (conv => whnf)
          (refine ⟨((i + 1 : Nat) : Int), by rw [← wrap64_id] <;> omega, ?_⟩; conv => whnf)
          exact lg_back (i + 1) (by omega) (by (try dsimp only); omega) (weak_of allsA allsA rfl rfl)
  · have hin : i = n := by omega
    subst hin
    have hF0 : ∀ j, isF k m ds name j = false → fr j = none := fun j h => by rw [← hfr, frO, h]; rfl
    have hF1 : ∀ j, isF k m ds name j = true → fr j = some (frI ds name j) := fun j h => by rw [← hfr, frO, if_pos h]
    obtain ⟨zR, hzR⟩ : ∃ zR, (List.replicate i false).map bE = zR := ⟨_, rfl⟩
    refine ⟨LG (fun q : Nat => q ≤ i ∧ stO k m fr q = none) (fun q => i - q) (fun q => AS.of [(2, .one (.ptr 32 0)), (4, .one (.ptr 64 0)), (5, .one (vN i)), (6, .one (.ptr 96 0)), (7, .one (.loc 496 0 i)), (8, .one (.loc 528 0 i)), (93, .one (.loc 496 0 i)), (94, .one (vN i)), (95, .one (vN q))]
      [(32, .var (DArray.enc ⟨k, m, ds⟩)), (64, .var [.lit (.slice none 0 0), .lit (.slice none 0 0), .lit (.string .empty), .lit (.string .empty), .lit (.bool false)]), (96, .var [.loc 416 0 i, .loc 448 0 i, .lit (.string .empty), .lit (.string .empty), .lit (.bool false)]), (416, .row true 1 ((updL (thereO ds name) false i i).map bE)), (448, .row true 1 ((List.replicate i false).map bE)), (496, .row true 6 ((updL (frI ds name) Fr.zero i i).map Fr.enc)), (528, .row true 1 ((updL (isF k m ds name) false i i).map bE))]),
      lg_init 0 ⟨by omega, rfl⟩ (weak_of allsA allsA rfl rfl), ?_⟩
    rintro σ j ⟨q, ⟨hq, hst⟩, rfl, rfl⟩
    refine ⟨_, Weak.refl _, ?_⟩
    (conv => whnf)
    (split <;> rename_i hb2 <;> (try simp only [decide_eq_true_eq, decide_eq_false_iff_not, Bool.not_eq_true', Bool.not_eq_false', Bool.not_eq_true, Bool.not_eq_false, List.length_map] at hb2) <;> conv => whnf)
    · have hlq : q < i := by omega
      refine ⟨q, rfl, hlq, ?_⟩; (conv => whnf)
      refine ⟨_, updA (f := frI ds name) Fr.enc hlq, ?_⟩; (conv => whnf)
      refine ⟨q, rfl, hlq, ?_⟩; (conv => whnf)
      refine ⟨_, updA (f := isF k m ds name) bE hlq, ?_⟩; (conv => whnf)
      cases hFq : isF k m ds name q with
      | false =>
        have hst1 : stO k m fr (q + 1) = none := by rw [stO, hst, hF0 q hFq]
        (conv => whnf)
        (refine ⟨((q + 1 : Nat) : Int), by rw [← wrap64_id] <;> omega, ?_⟩; conv => whnf)
        exact lg_back (q + 1) ⟨by omega, hst1⟩ (by (try dsimp only); omega) (weak_of allsA allsA rfl rfl)
      | true =>
        have hfq := hF1 q hFq
        obtain ⟨f, hf⟩ : ∃ f, frI ds name q = f := ⟨_, rfl⟩
        rw [hf] at hfq
        have hG := (hgood q f hfq).1
        obtain ⟨n', hn1, hn2, hn3⟩ := hG.n
        have hsS := shO_size (k := k) (fun j g h => (hgood j g h).1) (f := f) (k + m)
        rw [hn1, Int.toNat_natCast] at hsS
        have hdec := decImpl_c (k := k) (m := m) (L := shN k n') (size := n') (l := shO (k + m) fr f) hk hm (shO_len _ _ _) (by omega) rfl hsS
        have hTe : decT k m (shN k n') n' (shO (k + m) fr f) = tryT k m fr f := by rw [tryT, hn1, Int.toNat_natCast]
        have hCe : decC k m (shO (k + m) fr f) = tryC k m fr f := rfl
        have hTs : (tryT k m fr f).size ≤ 20000 := by have := decT_size k m (shN k n') n' (shO (k + m) fr f); rw [hTe] at this; omega
        rw [hTe, hCe, hn] at hdec
        have hdig := digImpl_c (tryT k m fr f) (by omega)
        have hBd : tryB k m fr f = (decide (tryC k m fr f = 0) && decide (digF (tryT k m fr f) = f.whole)) := rfl
        have hshE : (shO i fr f).map Sh.enc = (updL (shI fr f) Sh.none i i).map Sh.enc := by rw [updL_full]; rfl
        rw [hshE] at hdec
        have hst2 : tryB k m fr f = false → stO k m fr (q + 1) = none := fun h => by rw [stO, hst]; simp only [hfq, h]; rfl
        have hst3 : tryB k m fr f = true → stO k m fr i = some f := fun h => by
          have h1 : stO k m fr (q + 1) = some f := by rw [stO, hst]; simp only [hfq, h]; rfl
          have := stO_keep h1 (i - (q + 1))
          rwa [show q + 1 + (i - (q + 1)) = i by omega] at this
        obtain ⟨TT, hTT⟩ : ∃ x, tryT k m fr f = x := ⟨_, rfl⟩
        obtain ⟨CC, hCC⟩ : ∃ x, tryC k m fr f = x := ⟨_, rfl⟩
        rw [hTT, hCC] at hdec hBd
        rw [hTT] at hdig
        (conv => whnf)
        refine ⟨i, rfl, Int.le_refl _, by omega, by simp only [maxLen]; omega, ?_⟩; (conv => whnf)
        refine ⟨i, rfl, Int.le_refl _, by omega, by simp only [maxLen]; omega, ?_⟩; (conv => whnf)
        refine ⟨LG (fun w : Nat => w ≤ i) (fun w => i - w) (fun w => AS.of [(2, .one (.ptr 32 0)), (4, .one (.ptr 64 0)), (5, .one (vN i)), (6, .one (.ptr 96 0)), (7, .one (.loc 496 0 i)), (8, .one (.loc 528 0 i)), (16, .one (.ptr 256 0)), (17, .one (.loc 1696 0 i)), (18, .one (.loc 1728 0 i)), (93, .one (.loc 496 0 i)), (94, .one (vN i)), (95, .one (vN q)), (109, .one (.loc 496 0 i)), (110, .one (vN i)), (111, .one (vN w))]
          [(32, .var (DArray.enc ⟨k, m, ds⟩)), (64, .var [.lit (.slice none 0 0), .lit (.slice none 0 0), .lit (.string .empty), .lit (.string .empty), .lit (.bool false)]), (96, .var [.loc 416 0 i, .loc 448 0 i, .lit (.string .empty), .lit (.string .empty), .lit (.bool false)]), (416, .row true 1 ((updL (thereO ds name) false i i).map bE)), (448, .row true 1 ((List.replicate i false).map bE)), (496, .row true 6 ((updL (frI ds name) Fr.zero i i).map Fr.enc)), (528, .row true 1 ((updL (isF k m ds name) false i i).map bE)), (256, .var f.enc), (1696, .row true 2 ((updL (shI fr f) Sh.none i w).map Sh.enc)), (1728, .row true 1 ((updL (goodI fr f) false i w).map bE))]),
          lg_init 0 (by omega) ?_, ?_⟩
        · refine weak_of allsA (all_cons rfl (all_cons rfl (all_cons rfl (all_cons rfl (all_cons rfl (all_cons rfl (all_cons rfl (all_cons (by rw [← hf]; rfl) (all_cons (eq_row rfl (by rw [updL_zero, List.map_replicate]; rfl)) (all_cons (eq_row rfl (by rw [updL_zero, List.map_replicate]; rfl)) all_nil)))))))))) rfl rfl
        rintro σ j ⟨w, hw, rfl, rfl⟩
        refine ⟨_, Weak.refl _, ?_⟩
        (conv => whnf)
        (split <;> rename_i hb3 <;> (try simp only [decide_eq_true_eq, decide_eq_false_iff_not, Bool.not_eq_true', Bool.not_eq_false', Bool.not_eq_true, Bool.not_eq_false, List.length_map] at hb3) <;> conv => whnf)
        · have hlw : w < i := by omega
          refine ⟨w, rfl, hlw, ?_⟩; (conv => whnf)
          refine ⟨_, updA (f := frI ds name) Fr.enc hlw, ?_⟩; (conv => whnf)
          refine ⟨w, rfl, hlw, ?_⟩; (conv => whnf)
          refine ⟨_, updA (f := isF k m ds name) bE hlw, ?_⟩; (conv => whnf)
          cases hFw : isF k m ds name w with
          | false =>
            have h1 : shI fr f w = Sh.none := by rw [shI, hF0 w hFw]
            have h2 : goodI fr f w = false := by rw [goodI, hF0 w hFw]
            (conv => whnf)
            (refine ⟨((w + 1 : Nat) : Int), by rw [← wrap64_id] <;> omega, ?_⟩; conv => whnf)
            exact lg_back (w + 1) (by omega) (by (try dsimp only); omega) (weak_of allsA (all_cons rfl (all_cons rfl (all_cons rfl (all_cons rfl (all_cons rfl (all_cons rfl (all_cons rfl (all_cons rfl (all_cons (eq_row rfl (by rw [updL_skip hlw h1])) (all_cons (eq_row rfl (by rw [updL_skip hlw h2])) all_nil)))))))))) rfl rfl)
          | true =>
            have hgw := hF1 w hFw
            (conv => whnf)
            by_cases hlk : likeF f (frI ds name w) = true
            · have h1 : shI fr f w = ⟨true, (frI ds name w).text⟩ := by rw [shI, hgw]; simp only [hlk, if_true]
              have h2 : goodI fr f w = true := by rw [goodI, hgw]; exact hlk
              unfold likeF at hlk
              simp only [Bool.and_eq_true, decide_eq_true_eq] at hlk
              (split <;> rename_i c1 <;> (try simp only [decide_eq_true_eq, decide_eq_false_iff_not, Bool.not_eq_true', Bool.not_eq_false', Bool.not_eq_true, Bool.not_eq_false, List.length_map] at c1) <;> conv => whnf)
              · (split <;> rename_i c2 <;> (try simp only [decide_eq_true_eq, decide_eq_false_iff_not, Bool.not_eq_true', Bool.not_eq_false', Bool.not_eq_true, Bool.not_eq_false, List.length_map] at c2) <;> conv => whnf)
                · repeat' (first | exact trivial | (apply And.intro <;> conv => whnf) | (refine ⟨w, rfl, hlw, ?_⟩; (conv => whnf)) | (refine ⟨_, updG (f := shI fr f) Sh.enc hlw, ?_⟩; (conv => whnf); refine ⟨_, rfl, ?_⟩; (conv => whnf)) | (refine ⟨_, updG (f := goodI fr f) bE hlw, ?_⟩; (conv => whnf); refine ⟨_, rfl, ?_⟩; (conv => whnf)) | ((refine ⟨((w + 1 : Nat) : Int), by rw [← wrap64_id] <;> omega, ?_⟩; conv => whnf); exact lg_back (w + 1) (by omega) (by (try dsimp only); omega) (weak_of allsA (all_cons rfl (all_cons rfl (all_cons rfl (all_cons rfl (all_cons rfl (all_cons rfl (all_cons rfl (all_cons rfl (all_cons (eq_row rfl (updS Sh.enc hlw h1)) (all_cons (eq_row rfl (updS bE hlw h2)) all_nil)))))))))) rfl rfl)))
                · exfalso; exact c2 hlk.2
              · exfalso; exact c1 hlk.1
            · have h1 : shI fr f w = Sh.none := by rw [shI, hgw]; simp only [hlk]; rfl
              have h2 : goodI fr f w = false := by rw [goodI, hgw]; exact Bool.eq_false_iff.2 hlk
              unfold likeF at hlk
              simp only [Bool.and_eq_true, decide_eq_true_eq] at hlk
              (split <;> rename_i c1 <;> (try simp only [decide_eq_true_eq, decide_eq_false_iff_not, Bool.not_eq_true', Bool.not_eq_false', Bool.not_eq_true, Bool.not_eq_false, List.length_map] at c1) <;> conv => whnf)
              · (split <;> rename_i c2 <;> (try simp only [decide_eq_true_eq, decide_eq_false_iff_not, Bool.not_eq_true', Bool.not_eq_false', Bool.not_eq_true, Bool.not_eq_false, List.length_map] at c2) <;> conv => whnf)
                · exfalso; exact hlk ⟨c1, c2⟩
                · (refine ⟨((w + 1 : Nat) : Int), by rw [← wrap64_id] <;> omega, ?_⟩; conv => whnf)
                  exact lg_back (w + 1) (by omega) (by (try dsimp only); omega) (weak_of allsA (all_cons rfl (all_cons rfl (all_cons rfl (all_cons rfl (all_cons rfl (all_cons rfl (all_cons rfl (all_cons rfl (all_cons (eq_row rfl (by rw [updL_skip hlw h1])) (all_cons (eq_row rfl (by rw [updL_skip hlw h2])) all_nil)))))))))) rfl rfl)
              · (refine ⟨((w + 1 : Nat) : Int), by rw [← wrap64_id] <;> omega, ?_⟩; conv => whnf)
                exact lg_back (w + 1) (by omega) (by (try dsimp only); omega) (weak_of allsA (all_cons rfl (all_cons rfl (all_cons rfl (all_cons rfl (all_cons rfl (all_cons rfl (all_cons rfl (all_cons rfl (all_cons (eq_row rfl (by rw [updL_skip hlw h1])) (all_cons (eq_row rfl (by rw [updL_skip hlw h2])) all_nil)))))))))) rfl rfl)
        · have hwi : w = i := by omega
          subst hwi
          refine ⟨_, _, hdec, lends_cons (lend_one (la_lit rfl)) (lends_cons (lend_one (la_lit rfl)) (lends_cons (lend_one (la_int hn1.symm)) (lends_cons (lend_one (la_loc rfl rfl rfl (by rw [updN Sh.enc (Nat.le_refl _)]) rfl)) lends_nil))), ?_⟩; (conv => whnf)
          (split <;> rename_i c3 <;> (try simp only [decide_eq_true_eq, decide_eq_false_iff_not, Bool.not_eq_true', Bool.not_eq_false', Bool.not_eq_true, Bool.not_eq_false, List.length_map] at c3) <;> conv => whnf)
          · refine ⟨_, _, hdig, lendA, ?_⟩; (conv => whnf)
            (split <;> rename_i c4 <;> (try simp only [decide_eq_true_eq, decide_eq_false_iff_not, Bool.not_eq_true', Bool.not_eq_false', Bool.not_eq_true, Bool.not_eq_false, List.length_map] at c4) <;> conv => whnf)
            · rw [hst3 (by rw [hBd, decide_eq_true (by omega : CC = 0), decide_eq_true c4]; rfl)] at hR
              simp only [hTT] at hR
              subst hR
              repeat' (first | exact ⟨close_row rfl rfl (by rw [updN (f := thereO ds name) (d := false) bE (Nat.le_refl _)]) rfl, close_row rfl rfl (by rw [updN (f := goodI fr f) (d := false) bE (Nat.le_refl _)]) rfl, close_str rfl, close_str rfl, close_bool rfl, trivial⟩ | exact trivial | (apply And.intro <;> conv => whnf))
            · have hbf : tryB k m fr f = false := by rw [hBd, decide_eq_false c4, Bool.and_false]
              (refine ⟨((q + 1 : Nat) : Int), by rw [← wrap64_id] <;> omega, ?_⟩; conv => whnf)
              exact lg_back (q + 1) ⟨by omega, hst2 hbf⟩ (by (try dsimp only); omega) (weak_of allsA allsA rfl rfl)
          · have hbf : tryB k m fr f = false := by rw [hBd, decide_eq_false (by omega : ¬ CC = 0), Bool.false_and]
            (refine ⟨((q + 1 : Nat) : Int), by rw [← wrap64_id] <;> omega, ?_⟩; conv => whnf)
            exact lg_back (q + 1) ⟨by omega, hst2 hbf⟩ (by (try dsimp only); omega) (weak_of allsA allsA rfl rfl)
    · have hqi : q = i := by omega
      subst hqi
      rw [hst] at hR
      simp only at hR
      subst hR
      exact ⟨close_row rfl rfl (by rw [updN bE (Nat.le_refl _)]) rfl, close_row rfl rfl (by simp) rfl, close_str rfl, close_str rfl, close_bool rfl, trivial⟩
end Go.Proofs.YthdejoipdgahiaaGreatDoor
namespace Go.Proofs.YthdejoipdgahiaaGreatDoor
open Go.RowKit
set_option linter.unusedSimpArgs false
set_option linter.unusedVariables false
set_option maxRecDepth 100000
set_option maxHeartbeats 4000000
theorem matRight_c {r c : Nat} {cs : List Nat} {o : Bool} (hr : 1 ≤ r ∧ r ≤ 16) (hc : 1 ≤ c ∧ c ≤ 16) (hl : cs.length = r * c) (hb : ∀ x ∈ cs, x < 256) :
    Fun1 Tryz.prog 194 [.agg [vN r, vN c, .row o 1 (cs.map eNat)]] (.one (.lit (.bool true))) := by
  have hrc : r * c ≤ 16 * 16 := Nat.mul_le_mul hr.2 hc.2
  refine fun1_of_vc tb_ok mix (fn := Tryz.f194) Tryz.func194 rfl (by kernel_rfl) (by kernel_rfl) (by simp [Tryz.f194]) (by rfl) ?_
  (conv => whnf)
  (split <;> rename_i h1 <;> (try simp only [decide_eq_true_eq, decide_eq_false_iff_not, Bool.not_eq_true', Bool.not_eq_false', Bool.not_eq_true, Bool.not_eq_false, List.length_map] at h1) <;> conv => whnf)
  · exfalso; omega
  (conv => whnf)
  (split <;> rename_i h2 <;> (try simp only [decide_eq_true_eq, decide_eq_false_iff_not, Bool.not_eq_true', Bool.not_eq_false', Bool.not_eq_true, Bool.not_eq_false, List.length_map] at h2) <;> conv => whnf)
  · exfalso; omega
  (conv => whnf)
  (split <;> rename_i h3 <;> (try simp only [decide_eq_true_eq, decide_eq_false_iff_not, Bool.not_eq_true', Bool.not_eq_false', Bool.not_eq_true, Bool.not_eq_false, List.length_map] at h3) <;> conv => whnf)
  · exfalso; omega
  (conv => whnf)
  (split <;> rename_i h4 <;> (try simp only [decide_eq_true_eq, decide_eq_false_iff_not, Bool.not_eq_true', Bool.not_eq_false', Bool.not_eq_true, Bool.not_eq_false, List.length_map] at h4) <;> conv => whnf)
  · exfalso; omega
  (conv => whnf)
  refine ⟨((r * c : Nat) : Int), by rw [← wrap64_id] <;> omega, ?_⟩; (conv => whnf)
  (split <;> rename_i h5 <;> (try simp only [decide_eq_true_eq, decide_eq_false_iff_not, Bool.not_eq_true', Bool.not_eq_false', Bool.not_eq_true, Bool.not_eq_false, List.length_map] at h5) <;> conv => whnf)
  · exfalso; apply h5; simp [hl]
  refine ⟨LG (fun i : Nat => i ≤ cs.length) (fun i => cs.length - i) (fun i => AS.of [(1, .one (.ptr 16 0)), (3, .one (vN i))] [(16, .var [vN r, vN c, .row o 1 (cs.map eNat)])]), lg_init 0 (by omega) (weak_of allsA allsA rfl rfl), ?_⟩
  rintro σ j ⟨i, hi, rfl, rfl⟩
  refine ⟨_, Weak.refl _, ?_⟩
  (conv => whnf)
  (split <;> rename_i h <;> (try simp only [decide_eq_true_eq, decide_eq_false_iff_not, Bool.not_eq_true', Bool.not_eq_false', Bool.not_eq_true, Bool.not_eq_false, List.length_map] at h) <;> conv => whnf)
  · have hlt : i < cs.length := by omega
    refine ⟨i, rfl, _, at_map hlt, ?_⟩; (conv => whnf)
    have hx := hb _ (List.getElem_mem hlt)
    have hy := l02Byte_c (cs[i] : Int)
    rw [show (decide ((0 : Int) ≤ (cs[i] : Int)) && decide ((cs[i] : Int) ≤ 255)) = true by simp; omega] at hy
    refine ⟨_, _, hy, lendA, ?_⟩; (conv => whnf)
    (refine ⟨((i + 1 : Nat) : Int), by rw [← wrap64_id] <;> omega, ?_⟩; conv => whnf)
    exact lg_back (i + 1) (by omega) (by (try dsimp only); omega) (weak_of allsA allsA rfl rfl)
  · exact ⟨close_bool rfl, trivial⟩
theorem l03Copy_c {r c : Nat} {cs : List Nat} {o : Bool} (hl : cs.length ≤ 65536) : Fun1 Tryz.prog 196 [.agg [vN r, vN c, .row o 1 (cs.map eNat)]] (.agg (matE r c cs)) := by
  refine fun1_of_vc tb_ok mix (fn := Tryz.f196) Tryz.func196 rfl (by kernel_rfl) (by kernel_rfl) (by simp [Tryz.f196]) (by exact matE_nb) ?_
  (conv => whnf)
  refine ⟨true, cs.map eNat, ⟨rfl, rfl, rfl⟩, ?_⟩; (conv => whnf)
  refine ⟨_, laid_map (f := eNat) (fun _ => rfl) cs, rfl, by simp [chunk], rfl, by simp [maxLen, chunk]; omega, by simp [chunk]; omega, ?_⟩; (conv => whnf)
  exact ⟨close_int rfl, close_int rfl, close_row rfl rfl (by simp [chunk]) (by simp [chunk, laid]), trivial⟩
theorem matPick_c {k m : Nat} {idx : List Nat} (hk : 1 ≤ k ∧ k ≤ 8) (hm : m ≤ 6) (hl : idx.length = k) (hi : ∀ i ∈ idx, i < k + m) :
    Fun1 Tryz.prog 175 [.agg (matE (k + m) k (cauchyN k m).flatten), .one (.row true 1 (idx.map eNat))] (.agg (matE k k (pickM k m idx).flatten ++ [.lit (.int .i64 0)])) := by
  have hfl : (cauchyN k m).flatten.length = (k + m) * k := cauchy_cells k m
  have hfb : (k + m) * k ≤ 14 * 8 := Nat.mul_le_mul (by omega) (by omega)
  have hpk := pick_ok hk.2 hm hl hi
  have hpl : (pickM k m idx).length = k := hpk.len
  have hR := matRight_c (o := true) (r := k + m) (c := k) (cs := (cauchyN k m).flatten) (by omega) (by omega) hfl (cauchy_lt hk.2 hm)
  have hpf : (pickM k m idx).flatten.length = k * k := by rw [flat_len' hpk.wid, hpk.len]
  have hkk : k * k ≤ 8 * 8 := Nat.mul_le_mul hk.2 hk.2
  have hnb : (T.agg (matE k k (pickM k m idx).flatten ++ [.lit (.int .i64 0)])).nb = true := by
    have : AV.nb (4 + 1) (.row true 1 ((pickM k m idx).flatten.map eNat)) = true := nb_map (n := 4) (fun y => rfl) _
    simp only [T.nb, matE, List.all_cons, List.all_nil, List.cons_append, List.nil_append, this]; rfl
  refine fun1_of_vc tb_ok mix (fn := Tryz.f175) Tryz.func175 rfl (by kernel_rfl) (by kernel_rfl) (by simp [Tryz.f175]) (by exact hnb) ?_
  (conv => whnf)
  (split <;> rename_i h0 <;> (try simp only [decide_eq_true_eq, decide_eq_false_iff_not, Bool.not_eq_true', Bool.not_eq_false', Bool.not_eq_true, Bool.not_eq_false, List.length_map] at h0) <;> conv => whnf)
  · exfalso; rw [hl] at h0; omega
  refine ⟨_, _, hR, lendA, ?_⟩; (conv => whnf)
  (split <;> rename_i h1 <;> (try simp only [decide_eq_true_eq, decide_eq_false_iff_not, Bool.not_eq_true', Bool.not_eq_false', Bool.not_eq_true, Bool.not_eq_false, List.length_map] at h1) <;> conv => whnf)
  · exfalso; rw [hl] at h1; omega
  (conv => whnf)
  (split <;> rename_i h2 <;> (try simp only [decide_eq_true_eq, decide_eq_false_iff_not, Bool.not_eq_true', Bool.not_eq_false', Bool.not_eq_true, Bool.not_eq_false, List.length_map] at h2) <;> conv => whnf)
  · exfalso; rw [hl] at h2; omega
  refine ⟨LG (fun i : Nat => i ≤ k) (fun i => k - i) (fun i => AS.of [(1, .one (.row true 1 (idx.map eNat))), (2, .one (.ptr 32 0)), (4, .one (.ptr 64 0)), (5, .one (.ptr 80 0)), (6, .one (vN i))] [(32, .var (matE (k + m) k (cauchyN k m).flatten)), (64, .var [.lit (.int .i64 0), .lit (.int .i64 0), .lit (.slice none 0 0), .lit (.int .i64 0)]), (80, .var [vN k, vN k, .loc 1136 0 (i * k)]), (1136, .row true 1 (((pickM k m idx).take i).flatten.map eNat))]),
    lg_init 0 (by omega) ?_, ?_⟩
  · refine weak_nilv 80 1136 1 [.lit (.int .i64 ((idx.map eNat).length : Nat)), vN k] [] rfl rfl (weak_of allsA (all_cons rfl (all_cons rfl (all_cons ?_ (all_cons (eq_row rfl (by simp)) all_nil)))) rfl rfl)
    show some (Blk.var [.lit (.int .i64 ((idx.map eNat).length : Nat)), vN k, .loc 1136 0 0]) = some (Blk.var [vN k, vN k, .loc 1136 0 (0 * k)])
    rw [List.length_map, hl, Nat.zero_mul]
  rintro σ j ⟨i, hi', rfl, rfl⟩
  refine ⟨_, Weak.refl _, ?_⟩
  (conv => whnf)
  (split <;> rename_i h <;> (try simp only [decide_eq_true_eq, decide_eq_false_iff_not, Bool.not_eq_true', Bool.not_eq_false', Bool.not_eq_true, Bool.not_eq_false, List.length_map] at h) <;> conv => whnf)
  · have hlt : i < k := by omega
    have hii : i < idx.length := by omega
    have hx := hi _ (List.getElem_mem hii)
    have hrl : (idx[i] + 1) * k ≤ (cauchyN k m).flatten.length := row_len hfl hx
    have hik : i * k ≤ k * k := Nat.mul_le_mul_right _ (by omega)
    have hik1 : (i + 1) * k ≤ k * k := Nat.mul_le_mul_right _ (by omega)
    have htl : ((pickM k m idx).take i).flatten.length = i * k := by rw [flat_len' (fun r hr => hpk.wid r (List.mem_of_mem_take hr)), List.length_take, hpl, Nat.min_eq_left (by omega)]
    have hpi : (pickM k m idx)[i]'(by omega) = rw' (cauchyN k m) idx[i] := by simp [pickM]
    have hrow : (((cauchyN k m).flatten.map eNat).drop (idx[i] * k)).take k = ((pickM k m idx)[i]'(by omega)).map eNat := by
      rw [← List.map_drop, ← List.map_take, flat_row (fun r hr => cauchyN_row r hr) idx[i] (by simp; omega), hpi]
    have hle : (idx[i] + 1) * k = idx[i] * k + k := by rw [Nat.add_mul, Nat.one_mul]
    refine ⟨i, rfl, _, at_map hii, ?_⟩; (conv => whnf)
    refine ⟨i, rfl, _, at_map hii, ?_⟩; (conv => whnf)
    (split <;> rename_i h4 <;> (try simp only [decide_eq_true_eq, decide_eq_false_iff_not, Bool.not_eq_true', Bool.not_eq_false', Bool.not_eq_true, Bool.not_eq_false, List.length_map] at h4) <;> conv => whnf)
    · exfalso; omega
    refine ⟨i, rfl, _, at_map hii, ?_⟩; (conv => whnf)
    refine ⟨((idx[i] * k : Nat) : Int), by rw [← wrap64_id] <;> omega, ?_⟩; (conv => whnf)
    refine ⟨i, rfl, _, at_map hii, ?_⟩; (conv => whnf)
    refine ⟨((idx[i] + 1 : Nat) : Int), by rw [← wrap64_id] <;> omega, ?_⟩; (conv => whnf)
    refine ⟨(((idx[i] + 1) * k : Nat) : Int), by rw [← wrap64_id] <;> omega, ?_⟩; (conv => whnf)
    refine ⟨by simp only [Option.getD]; omega, by simp only [Option.getD]; omega, by simp only [Option.getD, List.length_map]; omega, ((pickM k m idx)[i]'(by omega)).map eNat, ?_, ?_⟩
    · simp only [Option.getD]
      rw [← hrow]; congr 1 <;> omega
    (conv => whnf)
    have hrl2 := hpk.wid _ (List.getElem_mem (show i < (pickM k m idx).length by omega))
    have htk : ((pickM k m idx).take (i + 1)).flatten = ((pickM k m idx).take i).flatten ++ (pickM k m idx)[i]'(by omega) := flat_take_succ (by omega)
    have hlen : i * k + k = (i + 1) * k := by rw [Nat.add_mul, Nat.one_mul]
    refine ⟨_, ((pickM k m idx)[i]'(by omega)).map eNat, ⟨rfl, rfl, rfl⟩, ?_⟩; (conv => whnf)
    refine ⟨_, laid_map (f := eNat) (fun _ => rfl) ((pickM k m idx)[i]'(by omega)), rfl, by rw [List.length_map, htl], rfl, by simp only [maxLen, List.length_map, htl, hrl2]; omega, by simp only [List.length_map, htl, hrl2]; omega, ?_⟩; (conv => whnf)
    (refine ⟨((i + 1 : Nat) : Int), by rw [← wrap64_id] <;> omega, ?_⟩; conv => whnf)
    refine lg_back (i + 1) (by omega) (by (try dsimp only); omega) (weak_of allsA (all_cons rfl (all_cons rfl (all_cons ?_ (all_cons (eq_row rfl (by rw [htk, List.map_append])) all_nil)))) rfl rfl)
    show some (Blk.var [vN k, vN k, .loc 1136 0 (((((pickM k m idx).take i).flatten).map eNat).length + (((pickM k m idx)[i]'(by omega)).map eNat).length)]) = some (Blk.var [vN k, vN k, .loc 1136 0 ((i + 1) * k)])
    rw [List.length_map, List.length_map, htl, hrl2, hlen]
  · have hik : i = k := by omega
    subst hik
    exact ⟨close_int rfl, close_int rfl, close_row rfl rfl (by rw [List.take_of_length_le (Nat.le_of_eq hpl), List.length_map, hpf]) (by rw [List.take_of_length_le (Nat.le_of_eq hpl)]), close_int rfl, trivial⟩
theorem eq_agl {t : T} {a b : AV} {s n m : Nat} (h : t = .agg [a, b, .loc s 0 n]) (e : n = m) : t = .agg [a, b, .loc s 0 m] := by rw [h, e]
theorem eq_varl {t : Option Blk} {a b : AV} {s n m : Nat} (h : t = some (.var [a, b, .loc s 0 n])) (e : n = m) : t = some (.var [a, b, .loc s 0 m]) := by rw [h, e]
theorem matInv_c {k : Nat} {M : List (List Nat)} (hk : 1 ≤ k ∧ k ≤ 8) (h : RowsOk k k M) (hn : NSR k k (cel M)) :
    Fun1 Tryz.prog 174 [.agg (matE k k M.flatten)] (.agg (matE k k (invM k M).flatten ++ [.lit (.int .i64 0)])) := by
  have hMf : M.flatten.length = k * k := by rw [flat_len' h.wid, h.len]
  have hI := invM_ok h hn
  have hIf : (invM k M).flatten.length = k * k := by rw [flat_len' hI.wid, hI.len]
  have hkk : k * k ≤ 8 * 8 := Nat.mul_le_mul hk.2 hk.2
  have hR := matRight_c (o := true) (r := k) (c := k) (cs := M.flatten) (by omega) (by omega) hMf (flat_byte h)
  have hU := unit3_c (n := k) (by omega)
  have hC := l03Copy_c (r := k) (c := k) (cs := M.flatten) (o := true) (by omega)
  have hS := l03Steps_c hk h hn
  rw [show cm k (augR k M) = M.flatten by rw [cm, augR_left h], show cb k (augR k M) = ((List.range k).map fun i => unitR i k).flatten by rw [cb, augR_right h], show cb k (gzR (augR k M) k) = (invM k M).flatten from rfl] at hS
  obtain ⟨C, hCm⟩ : ∃ C, cm k (gzR (augR k M) k) = C := ⟨_, rfl⟩
  rw [hCm] at hS
  have hul : (((List.range k).map fun i => unitR i k).flatten).length = k * k := units_len _ _
  have hnb : (T.agg (matE k k (invM k M).flatten ++ [.lit (.int .i64 0)])).nb = true := by
    have : AV.nb (4 + 1) (.row true 1 ((invM k M).flatten.map eNat)) = true := nb_map (n := 4) (fun y => rfl) _
    simp only [T.nb, matE, List.all_cons, List.all_nil, List.cons_append, List.nil_append, this]; rfl
  refine fun1_of_vc (E := tbO174) (tbF_ok _) mix (fn := Tryz.f174) Tryz.func174 rfl (by kernel_rfl) (by kernel_rfl) (by simp [Tryz.f174]) (by exact hnb) ?_
  (conv => whnf)
  refine ⟨_, _, hR, lendA, ?_⟩; (conv => whnf)
  (split <;> rename_i h1 <;> (try simp only [decide_eq_true_eq, decide_eq_false_iff_not, Bool.not_eq_true', Bool.not_eq_false', Bool.not_eq_true, Bool.not_eq_false, List.length_map] at h1) <;> conv => whnf)
  · exfalso; exact h1 trivial
  refine ⟨_, _, hU, lendA, ?_⟩; (conv => whnf)
  repeat' (first | exact trivial | (apply And.intro <;> conv => whnf) | (refine ⟨_, _, hC, lends_cons (lend_bor rfl rfl) lends_nil, ?_⟩; (conv => whnf)) | (refine ⟨[(1, .one (.ptr 16 0)), (2, .one (.ptr 32 0)), (3, .one (.ptr 48 0)), (19, .agg [vN k, vN k, .loc 306 0 (k * k)]), (20, .agg [vN k, vN k, .loc 274 0 (k * k)]), (22, .one (.ptr 16 0)), (23, .one (vN k))], [(16, .var (matE k k M.flatten)), (32, .var [.lit (.int .i64 0), .lit (.int .i64 0), .lit (.slice none 0 0), .lit (.int .i64 0)]), (48, .var [vN k, vN k, .loc 274 0 (k * k)]), (306, .row true 1 (M.flatten.map eNat)), (274, .row true 1 (((List.range k).map fun i => unitR i k).flatten.map eNat))], weak_of (all_cons rfl (all_cons rfl (all_cons rfl (all_cons (eq_agl rfl (by rw [List.length_map, hMf])) (all_cons (eq_agl rfl (by rw [List.length_map, hul])) (all_cons rfl (all_cons rfl all_nil))))))) (all_cons rfl (all_cons rfl (all_cons (eq_varl rfl (by rw [List.length_map, hul])) (all_cons rfl (all_cons rfl all_nil))))) rfl rfl, _, _, _, _, [306, 274], hS, rens_cons (ren_agg (all2_cons (ren_lit rfl) (all2_cons (ren_lit rfl) (all2_cons (ren_loc rfl rfl) all2_nil)))) (rens_cons (ren_agg (all2_cons (ren_lit rfl) (all2_cons (ren_lit rfl) (all2_cons (ren_loc rfl rfl) all2_nil)))) rens_nil), hasRows_cons rfl (hasRows_cons rfl hasRows_nil), (by decide), rfl, Bool.or_eq_true_iff.2 (.inr (flat2 _ _)), rfl, ?_⟩; (conv => whnf)) | (refine ⟨[(1, .one (.ptr 16 0)), (2, .one (.ptr 32 0)), (3, .one (.ptr 48 0)), (19, .agg [vN k, vN k, .loc 306 0 (k * k)]), (20, .agg [vN k, vN k, .loc 274 0 (k * k)]), (22, .one (.ptr 16 0))], [(16, .var (matE k k M.flatten)), (32, .var [.lit (.int .i64 0), .lit (.int .i64 0), .lit (.slice none 0 0), .lit (.int .i64 0)]), (48, .var [vN k, vN k, .loc 274 0 (k * k)]), (306, .row true 1 (M.flatten.map eNat)), (274, .row true 1 (((List.range k).map fun i => unitR i k).flatten.map eNat))], weak_of (all_cons rfl (all_cons rfl (all_cons rfl (all_cons (eq_agl rfl (by rw [List.length_map, hMf])) (all_cons (eq_agl rfl (by rw [List.length_map, hul])) (all_cons rfl all_nil)))))) (all_cons rfl (all_cons rfl (all_cons (eq_varl rfl (by rw [List.length_map, hul])) (all_cons rfl (all_cons rfl all_nil))))) rfl rfl, _, _, _, _, [306, 274], hS, rens_cons (ren_agg (all2_cons (ren_lit rfl) (all2_cons (ren_lit rfl) (all2_cons (ren_loc rfl rfl) all2_nil)))) (rens_cons (ren_agg (all2_cons (ren_lit rfl) (all2_cons (ren_lit rfl) (all2_cons (ren_loc rfl rfl) all2_nil)))) rens_nil), hasRows_cons rfl (hasRows_cons rfl hasRows_nil), (by decide), rfl, Bool.or_eq_true_iff.2 (.inr (flat2 _ _)), rfl, ?_⟩; (conv => whnf)))
  all_goals (split <;> rename_i h9 <;> (try simp only [decide_eq_true_eq, decide_eq_false_iff_not, Bool.not_eq_true', Bool.not_eq_false', Bool.not_eq_true, Bool.not_eq_false, List.length_map] at h9) <;> conv => whnf)
  all_goals first | (exfalso; omega) | exact ⟨close_int rfl, close_int rfl, close_row rfl rfl (by rw [List.length_map, hIf]) rfl, close_int rfl, trivial⟩
end Go.Proofs.YthdejoipdgahiaaGreatDoor
namespace Go.Proofs.YthdejoipdgahiaaGreatDoor
open Go.RowKit
set_option linter.unusedSimpArgs false
set_option linter.unusedVariables false
set_option maxRecDepth 100000
set_option maxHeartbeats 4000000
def datR (k m L : Nat) (l : List Sh) : List ByteArray := if (idxS k m l).length < k then [] else dataS k m L l
def datB (k m : Nat) (l : List Sh) : Bool := decide (k ≤ (idxS k m l).length)
theorem l04Data_c {k m L : Nat} {l : List Sh} (hk : 1 ≤ k ∧ k ≤ 8) (hm : m ≤ 6) (hl : l.length = k + m) (hs : ∀ s ∈ l, s.have_ = true → s.text.size = L) (hL : L ≤ 1000000) :
    Fun1 Tryz.prog 145 [.one (vN k), .one (vN m), .one (.row true 2 (l.map Sh.enc))] (.tup [(false, [.row true 1 ((datR k m L l).map eStr)]), (false, [.lit (.bool (datB k m l))])]) := by
  have hbig : k ≤ (idxS k m l).length → ∀ Z : List ByteArray, Z = dataS k m L l → ∃ M : List (List Nat), M = pickM k m (idxN k (k + m) (hasS l)) ∧ Fun1 Tryz.prog 175 [.agg (matE (k + m) k (cauchyN k m).flatten), .one (.row true 1 ((idxN k (k + m) (hasS l)).map eNat))] (.agg (matE k k M.flatten ++ [.lit (.int .i64 0)])) ∧
      Fun1 Tryz.prog 174 [.agg (matE k k M.flatten)] (.agg (matE k k (invM k M).flatten ++ [.lit (.int .i64 0)])) ∧
      Fun1 Tryz.prog 74 [.agg (matE k k (invM k M).flatten), .one (.row true 1 (((idxN k (k + m) (hasS l)).map (txtS l)).map eStr))] (.one (.row true 1 (Z.map eStr))) := by
    intro hn Z hZ
    have hil : (idxS k m l).length = k := Nat.le_antisymm (idxN_le _ _ _) hn
    have hmem : ∀ i ∈ idxS k m l, i < k + m := fun i hi => (idxN_mem hi).1
    have hP := pick_ok hk.2 hm hil hmem
    have hN := pick_ns hk.2 hm (idxN_cnt hn)
    have hI := invM_ok hP hN
    have hIf : (invM k (pickM k m (idxS k m l))).flatten.length = k * k := by rw [flat_len' hI.wid, hI.len]
    have htl := txsS_len k m l
    refine ⟨_, rfl, matPick_c hk hm hil hmem, matInv_c hk hP hN, ?_⟩
    rw [hZ]
    exact combSpec_c k k L (invM k (pickM k m (idxS k m l))).flatten (txsS k m l) (by omega) (by omega) hIf (flat_byte hI) (by omega) (by omega) (by omega) (txsS_size hl hs) (by omega)
  have hca := cauchySpec_c hk hm
  have hidx : idxS k m l = idxN k (k + m) (hasS l) := rfl
  obtain ⟨Z, hZ⟩ : ∃ Z, dataS k m L l = Z := ⟨_, rfl⟩
  have hR : datR k m L l = if (idxN k (k + m) (hasS l)).length < k then [] else Z := by rw [datR, hidx, hZ]
  have hB : datB k m l = decide (k ≤ (idxN k (k + m) (hasS l)).length) := rfl
  obtain ⟨R, hRR⟩ : ∃ R, datR k m L l = R := ⟨_, rfl⟩
  obtain ⟨B, hBB⟩ : ∃ B, datB k m l = B := ⟨_, rfl⟩
  rw [hRR] at hR
  rw [hBB] at hB
  rw [hRR, hBB]
  have h0 : idxN k 0 (hasS l) = [] := by simp [idxN]
  refine fun1_of_vc tb_ok mix (fn := Tryz.f145) Tryz.func145 rfl (by kernel_rfl) (by kernel_rfl) (by simp [Tryz.f145]) (by exact rem_nb _ _) ?_
  (conv => whnf)
  refine ⟨LG (fun i : Nat => i ≤ k + m) (fun i => k + m - i) (fun i => AS.of [(0, .one (vN k)), (1, .one (vN m)), (2, .one (.row true 2 (l.map Sh.enc))), (8, .one (.loc 192 0 (idxN k i (hasS l)).length)), (9, .one (.loc 208 0 (idxN k i (hasS l)).length)), (10, .one (vN i))] [(192, .row true 1 ((idxN k i (hasS l)).map eNat)), (208, .row true 1 (((idxN k i (hasS l)).map (txtS l)).map eStr))]),
    lg_init 0 (by omega) (weak_of (all_cons rfl (all_cons rfl (all_cons rfl (all_cons (eq_loc rfl (by simp [h0])) (all_cons (eq_loc rfl (by simp [h0])) (all_cons rfl all_nil)))))) (all_cons (eq_row rfl (by simp [h0]; rfl)) (all_cons (eq_row rfl (by simp [h0]; rfl)) all_nil)) rfl rfl), ?_⟩
  rintro σ j ⟨i, hi, rfl, rfl⟩
  have hcl := idxN_le k i (hasS l)
  refine ⟨_, Weak.refl _, ?_⟩
  (conv => whnf)
  refine ⟨((k + m : Nat) : Int), by rw [← wrap64_id] <;> omega, ?_⟩; (conv => whnf)
  (split <;> rename_i hb <;> (try simp only [decide_eq_true_eq, decide_eq_false_iff_not, Bool.not_eq_true', Bool.not_eq_false', Bool.not_eq_true, Bool.not_eq_false, List.length_map] at hb) <;> conv => whnf)
  · (split <;> rename_i hb2 <;> (try simp only [decide_eq_true_eq, decide_eq_false_iff_not, Bool.not_eq_true', Bool.not_eq_false', Bool.not_eq_true, Bool.not_eq_false, List.length_map] at hb2) <;> conv => whnf)
    · have hlt : i < l.length := by omega
      have hh := hasS_at hlt
      have ht := txtS_at hlt
      obtain ⟨⟨hv, tx⟩, hse⟩ : ∃ s, l[i] = s := ⟨_, rfl⟩
      have hat : (l.map Sh.enc)[i]? = some (Sh.enc ⟨hv, tx⟩) := by rw [← hse]; exact at_map hlt
      rw [hse] at hh ht
      simp only at hh ht
      cases hv
      · have hsk := idxN_skip (k := k) (i := i) (h := hasS l) (.inl hh)
        refine ⟨i, rfl, _, hat, ?_⟩; (conv => whnf)
        (refine ⟨((i + 1 : Nat) : Int), by rw [← wrap64_id] <;> omega, ?_⟩; conv => whnf)
        exact lg_back (i + 1) (by omega) (by (try dsimp only); omega) (weak_of (all_cons rfl (all_cons rfl (all_cons rfl (all_cons (eq_loc rfl (by rw [hsk])) (all_cons (eq_loc rfl (by rw [hsk])) (all_cons rfl all_nil)))))) (all_cons (eq_row rfl (by rw [hsk])) (all_cons (eq_row rfl (by rw [hsk])) all_nil)) rfl rfl)
      · have hlt2 : (idxN k i (hasS l)).length < k := by simpa using hb2
        have htk := idxN_take (k := k) (i := i) (h := hasS l) hh hlt2
        refine ⟨i, rfl, _, hat, ?_⟩; (conv => whnf)
        refine ⟨true, [eNat i], ⟨rfl, by simp [chunk], rfl, rfl⟩, ?_⟩; (conv => whnf)
        refine ⟨_, laid_map (f := eNat) (fun _ => rfl) [i], rfl, by simp, rfl, by simp [maxLen]; omega, by simp; omega, ?_⟩; (conv => whnf)
        refine ⟨i, rfl, _, hat, ?_⟩; (conv => whnf)
        refine ⟨true, [eStr tx], ⟨rfl, by simp [chunk], rfl, rfl⟩, ?_⟩; (conv => whnf)
        refine ⟨_, laid_map (f := eStr) (fun _ => rfl) [tx], rfl, by simp, rfl, by simp [maxLen]; omega, by simp; omega, ?_⟩; (conv => whnf)
        (refine ⟨((i + 1 : Nat) : Int), by rw [← wrap64_id] <;> omega, ?_⟩; conv => whnf)
        exact lg_back (i + 1) (by omega) (by (try dsimp only); omega) (weak_of (all_cons rfl (all_cons rfl (all_cons rfl (all_cons (eq_loc rfl (by rw [htk]; simp)) (all_cons (eq_loc rfl (by rw [htk]; simp)) (all_cons rfl all_nil)))))) (all_cons (eq_row rfl (by first | (rw [htk, List.map_append]; done) | (rw [htk, List.map_append]; rfl))) (all_cons (eq_row rfl (by first | (rw [htk, List.map_append, List.map_append, ← ht]; done) | (rw [htk, List.map_append, List.map_append, ← ht]; rfl))) all_nil)) rfl rfl)
    · have hfin : idxN k (k + m) (hasS l) = idxN k i (hasS l) := by
        have h8 : k ≤ (idxN k i (hasS l)).length := by simp at hb2; omega
        obtain ⟨d, hd⟩ : ∃ d, k + m = i + d := ⟨k + m - i, by omega⟩
        rw [hd]; exact idxN_full h8 d
      rw [hfin] at hR hB hbig
      by_cases hn : (idxN k i (hasS l)).length < k
      · rw [if_pos hn] at hR
        rw [decide_eq_false (by omega)] at hB
        subst hR hB
        (split <;> rename_i h7 <;> (try simp only [decide_eq_true_eq, decide_eq_false_iff_not, Bool.not_eq_true', Bool.not_eq_false', Bool.not_eq_true, Bool.not_eq_false, List.length_map] at h7) <;> conv => whnf)
        · exact ⟨rfl, ⟨close_row rfl rfl rfl rfl, trivial⟩, rfl, ⟨close_bool rfl, trivial⟩, trivial⟩
        · exfalso; apply h7; simpa using hn
      · rw [if_neg hn] at hR
        rw [decide_eq_true (by omega)] at hB
        subst hR hB
        obtain ⟨M, -, c1, c2, c3⟩ := hbig (by rw [hidx, hfin]; omega) R hZ.symm
        have hil : (idxN k i (hasS l)).length = k := by omega
        (split <;> rename_i h7 <;> (try simp only [decide_eq_true_eq, decide_eq_false_iff_not, Bool.not_eq_true', Bool.not_eq_false', Bool.not_eq_true, Bool.not_eq_false, List.length_map] at h7) <;> conv => whnf)
        · exfalso; apply hn; simpa using h7
        refine ⟨_, _, hca, lendA, ?_⟩; (conv => whnf)
        refine ⟨_, _, c1, lends_cons (lend_agg (all2_cons (la_int rfl) (all2_cons (la_int rfl) (all2_cons (la_loc rfl rfl rfl rfl rfl) all2_nil)))) (lends_cons (lend_one (la_loc rfl rfl rfl (by simp) rfl)) lends_nil), ?_⟩; (conv => whnf)
        refine ⟨_, _, c2, lends_cons (lend_agg (all2_cons (la_int rfl) (all2_cons (la_int rfl) (all2_cons (la_loc rfl rfl rfl rfl rfl) all2_nil)))) lends_nil, ?_⟩; (conv => whnf)
        refine ⟨_, _, c3, lends_cons (lend_agg (all2_cons (la_int rfl) (all2_cons (la_int rfl) (all2_cons (la_loc rfl rfl rfl rfl rfl) all2_nil)))) (lends_cons (lend_one (la_loc rfl rfl rfl (by simp) rfl)) lends_nil), ?_⟩; (conv => whnf)
        exact ⟨rfl, ⟨close_row rfl rfl rfl rfl, trivial⟩, rfl, ⟨close_bool rfl, trivial⟩, trivial⟩
  · have hfin : idxN k (k + m) (hasS l) = idxN k i (hasS l) := by rw [show k + m = i by omega]
    rw [hfin] at hR hB hbig
    by_cases hn : (idxN k i (hasS l)).length < k
    · rw [if_pos hn] at hR
      rw [decide_eq_false (by omega)] at hB
      subst hR hB
      (split <;> rename_i h7 <;> (try simp only [decide_eq_true_eq, decide_eq_false_iff_not, Bool.not_eq_true', Bool.not_eq_false', Bool.not_eq_true, Bool.not_eq_false, List.length_map] at h7) <;> conv => whnf)
      · exact ⟨rfl, ⟨close_row rfl rfl rfl rfl, trivial⟩, rfl, ⟨close_bool rfl, trivial⟩, trivial⟩
      · exfalso; apply h7; simpa using hn
    · rw [if_neg hn] at hR
      rw [decide_eq_true (by omega)] at hB
      subst hR hB
      obtain ⟨M, -, c1, c2, c3⟩ := hbig (by rw [hidx, hfin]; omega) R hZ.symm
      have hil : (idxN k i (hasS l)).length = k := by omega
      (split <;> rename_i h7 <;> (try simp only [decide_eq_true_eq, decide_eq_false_iff_not, Bool.not_eq_true', Bool.not_eq_false', Bool.not_eq_true, Bool.not_eq_false, List.length_map] at h7) <;> conv => whnf)
      · exfalso; apply hn; simpa using h7
      refine ⟨_, _, hca, lendA, ?_⟩; (conv => whnf)
      refine ⟨_, _, c1, lends_cons (lend_agg (all2_cons (la_int rfl) (all2_cons (la_int rfl) (all2_cons (la_loc rfl rfl rfl rfl rfl) all2_nil)))) (lends_cons (lend_one (la_loc rfl rfl rfl (by simp) rfl)) lends_nil), ?_⟩; (conv => whnf)
      refine ⟨_, _, c2, lends_cons (lend_agg (all2_cons (la_int rfl) (all2_cons (la_int rfl) (all2_cons (la_loc rfl rfl rfl rfl rfl) all2_nil)))) lends_nil, ?_⟩; (conv => whnf)
      refine ⟨_, _, c3, lends_cons (lend_agg (all2_cons (la_int rfl) (all2_cons (la_int rfl) (all2_cons (la_loc rfl rfl rfl rfl rfl) all2_nil)))) (lends_cons (lend_one (la_loc rfl rfl rfl (by simp) rfl)) lends_nil), ?_⟩; (conv => whnf)
      exact ⟨rfl, ⟨close_row rfl rfl rfl rfl, trivial⟩, rfl, ⟨close_bool rfl, trivial⟩, trivial⟩
end Go.Proofs.YthdejoipdgahiaaGreatDoor
namespace Go.Proofs.YthdejoipdgahiaaGreatDoor
open Go.RowKit
set_option linter.unusedSimpArgs false
set_option linter.unusedVariables false
set_option maxRecDepth 100000
set_option maxHeartbeats 4000000
theorem catN_step {D : List ByteArray} {i : Nat} (h : i < D.length) : catN (D.take (i + 1)) = catN (D.take i) ++ D[i].data.toList := by
  unfold catN
  rw [List.take_succ_eq_append_getElem h, List.map_append, List.flatten_append]; simp
theorem decSpec_c {k m L size : Nat} {l : List Sh} (hk : 1 ≤ k ∧ k ≤ 8) (hm : m ≤ 6) (hl : l.length = k + m) (hz : size ≤ 20000) (hL : shN k size = L) (hs : ∀ s ∈ l, s.have_ = true → s.text.size = L) :
    Fun1 Tryz.prog 111 [.one (vN k), .one (vN m), .one (vN size), .one (.row true 2 (l.map Sh.enc))] (.agg [.lit (.string (decT k m L size l)), .lit (.int .i64 (decC k m l : Nat))]) := by
  have hb := shN_bounds (size := size) hk.1
  rw [hL] at hb
  have hsh := shardSpec_c hk hz
  rw [hL] at hsh
  have hcode := codeSpec_c k m
  rw [codeN hk hm] at hcode
  have hsz := l04Size_c (size : Int)
  rw [show (decide ((0 : Int) ≤ (size : Int)) && decide ((size : Int) ≤ 20000)) = true by simp; omega] at hsz
  have hd := l04Data_c hk hm hl hs (by omega : L ≤ 1000000)
  have hT : decT k m L size l = if (idxS k m l).length < k then .empty else txtOf ((catN (dataS k m L l)).take size) := rfl
  have hC : decC k m l = if (idxS k m l).length < k then 10 else 0 := rfl
  have hDl : (dataS k m L l).length = k := combN_len _ _ _ _ _
  have hcl : (catN (dataS k m L l)).length = k * L := by rw [catN_len (l := dataS k m L l) (L := L) combN_size, hDl]
  have hDs : ∀ t ∈ dataS k m L l, t.size = L := combN_size
  have hdR : datR k m L l = if (idxS k m l).length < k then [] else dataS k m L l := rfl
  have hdB : datB k m l = decide (k ≤ (idxS k m l).length) := rfl
  obtain ⟨D, hD⟩ : ∃ D, dataS k m L l = D := ⟨_, rfl⟩
  rw [hD] at hT hdR hDl hcl hDs
  obtain ⟨T0, hT0⟩ : ∃ x, decT k m L size l = x := ⟨_, rfl⟩
  obtain ⟨C0, hC0⟩ : ∃ x, decC k m l = x := ⟨_, rfl⟩
  rw [hT0] at hT ⊢
  rw [hC0] at hC ⊢
  obtain ⟨R, hR⟩ : ∃ x, datR k m L l = x := ⟨_, rfl⟩
  obtain ⟨B, hB⟩ : ∃ x, datB k m l = x := ⟨_, rfl⟩
  rw [hR] at hd hdR
  rw [hB] at hd hdB
  refine fun1_of_vc tb_ok mix (fn := Tryz.f111) Tryz.func111 rfl (by kernel_rfl) (by kernel_rfl) (by simp [Tryz.f111]) (by rfl) ?_
  (conv => whnf)
  (split <;> rename_i h0 <;> (try simp only [decide_eq_true_eq, decide_eq_false_iff_not, Bool.not_eq_true', Bool.not_eq_false', Bool.not_eq_true, Bool.not_eq_false, List.length_map] at h0) <;> conv => whnf)
  · exfalso; omega
  refine ⟨_, _, hcode, lendA, ?_⟩; (conv => whnf)
  refine ⟨_, _, hsz, lendA, ?_⟩; (conv => whnf)
  refine ⟨((k + m : Nat) : Int), by rw [← wrap64_id] <;> omega, ?_⟩; (conv => whnf)
  (split <;> rename_i hb2 <;> (try simp only [decide_eq_true_eq, decide_eq_false_iff_not, Bool.not_eq_true', Bool.not_eq_false', Bool.not_eq_true, Bool.not_eq_false, List.length_map] at hb2) <;> conv => whnf)
  · exfalso; apply hb2; simp [hl]
  refine ⟨LG (fun i : Nat => i ≤ k + m) (fun i => k + m - i) (fun i => AS.of [(0, .one (vN k)), (1, .one (vN m)), (2, .one (vN size)), (3, .one (.row true 2 (l.map Sh.enc))), (8, .one (.ptr 128 0)), (9, .one (vN i))] [(128, .var [.lit (.string .empty), .lit (.int .i64 0)])]),
    lg_init 0 (by omega) (weak_of allsA allsA rfl rfl), ?_⟩
  rintro σ j ⟨i, hi, rfl, rfl⟩
  refine ⟨_, Weak.refl _, ?_⟩
  (conv => whnf)
  (split <;> rename_i hb <;> (try simp only [decide_eq_true_eq, decide_eq_false_iff_not, Bool.not_eq_true', Bool.not_eq_false', Bool.not_eq_true, Bool.not_eq_false, List.length_map] at hb) <;> conv => whnf)
  · have hlt : i < l.length := by omega
    obtain ⟨⟨hv, tx⟩, hse⟩ : ∃ s, l[i] = s := ⟨_, rfl⟩
    have hat : (l.map Sh.enc)[i]? = some (Sh.enc ⟨hv, tx⟩) := by rw [← hse]; exact at_map hlt
    have hts := hs _ (List.getElem_mem hlt)
    rw [hse] at hts
    cases hv
    · refine ⟨i, rfl, _, hat, ?_⟩; (conv => whnf)
      (refine ⟨((i + 1 : Nat) : Int), by rw [← wrap64_id] <;> omega, ?_⟩; conv => whnf)
      exact lg_back (i + 1) (by omega) (by (try dsimp only); omega) (weak_of allsA allsA rfl rfl)
    · refine ⟨i, rfl, _, hat, ?_⟩; (conv => whnf)
      refine ⟨i, rfl, _, hat, ?_⟩; (conv => whnf)
      refine ⟨_, _, hsh, lendA, ?_⟩; (conv => whnf)
      have hts' : tx.size = L := hts rfl
      (split <;> rename_i h5 <;> (try simp only [decide_eq_true_eq, decide_eq_false_iff_not, Bool.not_eq_true', Bool.not_eq_false', Bool.not_eq_true, Bool.not_eq_false, List.length_map] at h5) <;> conv => whnf)
      · exfalso; apply h5; simp [hts']
      · (refine ⟨((i + 1 : Nat) : Int), by rw [← wrap64_id] <;> omega, ?_⟩; conv => whnf)
        exact lg_back (i + 1) (by omega) (by (try dsimp only); omega) (weak_of allsA allsA rfl rfl)
  · refine ⟨_, _, hd, lendA, ?_⟩; (conv => whnf)
    by_cases hn : (idxS k m l).length < k
    · rw [if_pos hn] at hT hC
      rw [decide_eq_false (by omega)] at hdB
      subst hT hC hdB
      exact ⟨close_str rfl, close_int rfl, trivial⟩
    · rw [if_neg hn] at hT hC hdR
      rw [decide_eq_true (by omega)] at hdB
      subst hT hC hdB hdR
      (conv => whnf)
      refine ⟨LG (fun i : Nat => i ≤ k) (fun i => k - i) (fun i => AS.of [(2, .one (vN size)), (8, .one (.ptr 128 0)), (10, .one (.loc 1024 0 k)), (12, .one (.loc 1120 0 (catN (R.take i)).length)), (13, .one (vN i))] [(128, .var [.lit (.string .empty), .lit (.int .i64 0)]), (1024, .row true 1 (R.map eStr)), (1120, .row true 1 ((catN (R.take i)).map byteE))]),
        lg_init 0 (by omega) (weak_of (all_cons rfl (all_cons rfl (all_cons (eq_loc rfl (by simp [hDl])) (all_cons rfl (all_cons rfl all_nil))))) allsA rfl rfl), ?_⟩
      rintro σ j ⟨i, hi, rfl, rfl⟩
      refine ⟨_, Weak.refl _, ?_⟩
      (conv => whnf)
      (split <;> rename_i h6 <;> (try simp only [decide_eq_true_eq, decide_eq_false_iff_not, Bool.not_eq_true', Bool.not_eq_false', Bool.not_eq_true, Bool.not_eq_false, List.length_map] at h6) <;> conv => whnf)
      · have hlt : i < R.length := by omega
        refine ⟨i, rfl, by omega, ?_⟩; (conv => whnf)
        refine ⟨_, at_map0 hlt, ?_⟩; (conv => whnf)
        have hst := catN_step hlt
        have hsl : R[i].data.toList.length = R[i].size := by simp
        have hRi : R[i].size = L := hDs _ (List.getElem_mem hlt)
        have hcu : (catN (R.take i)).length = i * L := by rw [catN_len (fun t ht => hDs t (List.mem_of_mem_take ht)), List.length_take, Nat.min_eq_left (by omega)]
        have hiL : i * L ≤ k * L := Nat.mul_le_mul_right _ (by omega)
        refine ⟨true, R[i].data.toList.map byteE, ⟨rfl, rfl, rfl⟩, ?_⟩; (conv => whnf)
        refine ⟨_, laid_map (f := byteE) (fun _ => rfl) R[i].data.toList, rfl, by simp, rfl, by simp only [maxLen, List.length_map, hsl, hRi, hcu]; omega, by simp only [List.length_map, hsl, hRi, hcu]; omega, ?_⟩; (conv => whnf)
        (refine ⟨((i + 1 : Nat) : Int), by rw [← wrap64_id] <;> omega, ?_⟩; conv => whnf)
        exact lg_back (i + 1) (by omega) (by (try dsimp only); omega) (weak_of (all_cons rfl (all_cons rfl (all_cons rfl (all_cons (eq_loc rfl (by rw [hst]; simp)) (all_cons rfl all_nil))))) (all_cons rfl (all_cons rfl (all_cons (eq_row rfl (by rw [hst, List.map_append])) all_nil))) rfl rfl)
      · have hik : i = k := by omega
        subst hik
        have hRt : R.take i = R := List.take_of_length_le (by omega)
        refine ⟨by simp only [Option.getD]; omega, by simp only [Option.getD, List.length_map, hRt]; omega, by simp only [Option.getD, List.length_map, hRt]; omega, ?_⟩; (conv => whnf)
        refine ⟨0, size, rfl, by simp only [Option.getD]; omega, ?_⟩; (conv => whnf)
        refine ⟨true, _, (catN R).take size, ⟨rfl, by simp only [List.length_map, hRt]; omega, rfl, rfl⟩, by rw [List.drop_zero, hRt, List.map_take], ?_⟩; (conv => whnf)
        exact ⟨close_str rfl, close_int rfl, trivial⟩
end Go.Proofs.YthdejoipdgahiaaGreatDoor
