/- Contracts (reference): draws. -/
import Derived.Test.YtlijeincckbdaaaQe
import Derived.Test.YtlijeincckbdaaaQk
import Derived.Test.YtlijeincckbdaaaQd
import Derived.Test.YtlijeincckbdaaaQh
namespace Go.Proofs.Ytlijeincckbdaaa
open Go.RowKit
set_option linter.unusedSimpArgs false
set_option linter.unusedVariables false
set_option maxRecDepth 100000
set_option maxHeartbeats 4000000
/-- What a source of draws holds, but for its bytes. -/
structure Src where
  at_ : Nat
  mix : Int
  size : Int
/-- The bytes, as they lie in memory. -/
structure Byt where
  A : Option Addr
  cap : Nat
  l : List UInt8
def Byt.v (B : Byt) : Value := .slice B.A B.l.length B.cap
def Byt.pars (B : Byt) : List (Value × AV) := [(.slice B.A B.l.length B.cap, .row true 1 (B.l.map byteE))]
def Src.cells (S : Src) (B : Byt) : List Value := [.slice B.A B.l.length B.cap, .int .i64 (S.at_ : Nat), .int .u64 S.mix, .int .i64 S.size]
def Src.ok (S : Src) (l : List UInt8) : Prop := S.at_ ≤ l.length ∧ 0 ≤ S.size ∧ S.size ≤ 12
def mix1 (m : Int) : Int := bits .xor .u64 m (IntKind.u64.wrap (m * 2 ^ 13))
def mix2 (m : Int) : Int := bits .xor .u64 m (m.fdiv (2 ^ 7))
def mix3 (m : Int) : Int := bits .xor .u64 m (IntKind.u64.wrap (m * 2 ^ 17))
def mixF (m : Int) : Int := mix3 (mix2 (mix1 m))
def drawR (v m most : Int) : Int := IntKind.i64.wrap ((IntKind.u64.wrap (v + (mixF m).fdiv (2 ^ 20))).tmod (IntKind.u64.wrap most))
def nF (l : List UInt8) (S : Src) (most : Int) : Src × Int :=
  if most ≤ 1 then (S, 0)
  else match l[S.at_]? with
    | some u => (⟨S.at_ + 1, mixF S.mix, S.size⟩, drawR (IntKind.u64.wrap u.toNat) S.mix most)
    | none => (⟨S.at_, mixF S.mix, S.size⟩, drawR 0 S.mix most)
theorem n_c (B : Byt) (hB : B.l.length ≤ 4294967296) (S : Src) (hS : S.ok B.l) (most : Int) (hm : inI most) :
    PtrF Try.prog 122 B.pars (S.cells B) ((nF B.l S most).1.cells B) [.one (.lit (.int .i64 most))] (.one (.lit (.int .i64 (nF B.l S most).2))) := by
  unfold inI at hm
  by_cases h1 : most ≤ 1
  · have : nF B.l S most = (S, 0) := by unfold nF; rw [if_pos h1]
    rw [this]
    refine ptrf_of_vc (E := tb) tb_ok mix (fn := Try.f122) Try.func122 rfl (by kernel_rfl) (by kernel_rfl) (by simp [Try.f122]) (by rfl) rfl rfl (by show 1 ≤ 7; decide) rfl fun b => ?_
    (conv => whnf)
    (split <;> rename_i h <;> (try simp only [decide_eq_true_eq, decide_eq_false_iff_not, Bool.not_eq_true', Bool.not_eq_false', Bool.not_eq_true, Bool.not_eq_false, List.length_map] at h) <;> conv => whnf)
    · exact ⟨⟨close_int rfl, trivial⟩, rfl, rfl⟩
    · omega
  · have hw : IntKind.u64.wrap most = most := (wrap_id (k := .u64) (by simp [IntKind.min, IntKind.signed]; omega) (by simp [IntKind.max, IntKind.signed, IntKind.bits]; omega)).symm
    by_cases h2 : S.at_ < B.l.length
    · have : nF B.l S most = (⟨S.at_ + 1, mixF S.mix, S.size⟩, drawR (IntKind.u64.wrap B.l[S.at_].toNat) S.mix most) := by unfold nF; rw [if_neg h1, List.getElem?_eq_getElem h2]
      rw [this]
      refine ptrf_of_vc (E := tb) tb_ok mix (fn := Try.f122) Try.func122 rfl (by kernel_rfl) (by kernel_rfl) (by simp [Try.f122]) (by rfl) rfl rfl (by show 1 ≤ 7; decide) rfl fun b => ?_
      (conv => whnf)
      (split <;> rename_i h <;> (try simp only [decide_eq_true_eq, decide_eq_false_iff_not, Bool.not_eq_true', Bool.not_eq_false', Bool.not_eq_true, Bool.not_eq_false, List.length_map] at h) <;> conv => whnf)
      · omega
      · (split <;> rename_i h3 <;> (try simp only [decide_eq_true_eq, decide_eq_false_iff_not, Bool.not_eq_true', Bool.not_eq_false', Bool.not_eq_true, Bool.not_eq_false, List.length_map] at h3) <;> conv => whnf)
        · refine ⟨1, true, B.l.map byteE, rfl, S.at_, rfl, _, at_map h2, ?_⟩; (conv => whnf)
          refine ⟨_, rfl, ?_⟩; (conv => whnf)
          refine ⟨((S.at_ + 1 : Nat) : Int), by rw [← wrap64_id] <;> omega, ?_⟩; (conv => whnf)
          refine ⟨by decide, _, rfl, ?_⟩; (conv => whnf)
          refine ⟨by decide, _, rfl, ?_⟩; (conv => whnf)
          refine ⟨by decide, _, rfl, ?_⟩; (conv => whnf)
          refine ⟨by decide, _, rfl, ?_⟩; (conv => whnf)
          refine ⟨_, rfl, ?_⟩; (conv => whnf)
          refine ⟨_, rfl, ?_⟩; (conv => whnf)
          refine ⟨by rw [hw]; omega, _, rfl, ?_⟩; (conv => whnf)
          refine ⟨_, rfl, ?_⟩; (conv => whnf)
          exact ⟨⟨close_int rfl, trivial⟩, rfl, rfl⟩
        · omega
    · have : nF B.l S most = (⟨S.at_, mixF S.mix, S.size⟩, drawR 0 S.mix most) := by unfold nF; rw [if_neg h1, List.getElem?_eq_none (by omega)]
      rw [this]
      refine ptrf_of_vc (E := tb) tb_ok mix (fn := Try.f122) Try.func122 rfl (by kernel_rfl) (by kernel_rfl) (by simp [Try.f122]) (by rfl) rfl rfl (by show 1 ≤ 7; decide) rfl fun b => ?_
      (conv => whnf)
      (split <;> rename_i h <;> (try simp only [decide_eq_true_eq, decide_eq_false_iff_not, Bool.not_eq_true', Bool.not_eq_false', Bool.not_eq_true, Bool.not_eq_false, List.length_map] at h) <;> conv => whnf)
      · omega
      · (split <;> rename_i h3 <;> (try simp only [decide_eq_true_eq, decide_eq_false_iff_not, Bool.not_eq_true', Bool.not_eq_false', Bool.not_eq_true, Bool.not_eq_false, List.length_map] at h3) <;> conv => whnf)
        · omega
        · refine ⟨by decide, _, rfl, ?_⟩; (conv => whnf)
          refine ⟨by decide, _, rfl, ?_⟩; (conv => whnf)
          refine ⟨by decide, _, rfl, ?_⟩; (conv => whnf)
          refine ⟨by decide, _, rfl, ?_⟩; (conv => whnf)
          refine ⟨_, rfl, ?_⟩; (conv => whnf)
          refine ⟨_, rfl, ?_⟩; (conv => whnf)
          refine ⟨by rw [hw]; omega, _, rfl, ?_⟩; (conv => whnf)
          refine ⟨_, rfl, ?_⟩; (conv => whnf)
          exact ⟨⟨close_int rfl, trivial⟩, rfl, rfl⟩
theorem tmod_lt {a b : Int} (ha : 0 ≤ a) (hb : 0 < b) : 0 ≤ a.tmod b ∧ a.tmod b < b := ⟨Int.tmod_nonneg b ha, Int.tmod_lt_of_pos a hb⟩
theorem drawR_ok (v m most : Int) (h : 1 < most) (hm : inI most) : 0 ≤ drawR v m most ∧ drawR v m most < most := by
  unfold inI at hm
  have hw : IntKind.u64.wrap most = most := (wrap_id (k := .u64) (by simp [IntKind.min, IntKind.signed]; omega) (by simp [IntKind.max, IntKind.signed, IntKind.bits]; omega)).symm
  have h0 : 0 ≤ IntKind.u64.wrap (v + (mixF m).fdiv (2 ^ 20)) := by
    simp only [IntKind.wrap, IntKind.signed, IntKind.bits]
    exact Int.emod_nonneg _ (by decide)
  unfold drawR
  rw [hw]
  have h1 := tmod_lt h0 (show (0 : Int) < most by omega)
  rw [← wrap64_id (by omega) (by omega)]
  exact h1
theorem nF_ok {l : List UInt8} {S : Src} (hS : S.ok l) {most : Int} (hm : inI most) : (nF l S most).1.ok l ∧ (nF l S most).1.size = S.size ∧ 0 ≤ (nF l S most).2 ∧ ((nF l S most).2 < most ∨ (nF l S most).2 = 0) := by
  unfold nF
  split
  · exact ⟨hS, rfl, Int.le_refl 0, .inr rfl⟩
  · rename_i h
    split
    · rename_i u hu
      have := drawR_ok (IntKind.u64.wrap u.toNat) S.mix most (by omega) hm
      exact ⟨⟨(List.getElem?_eq_some_iff.1 hu).1, hS.2⟩, rfl, this.1, .inl this.2⟩
    · have := drawR_ok 0 S.mix most (by omega) hm
      exact ⟨hS, rfl, this.1, .inl this.2⟩
def oneF (l : List UInt8) (S : Src) (of : Int) : Src × Bool := ((nF l S of).1, decide ((nF l S of).2 = 0))
theorem one_c (B : Byt) (hB : B.l.length ≤ 4294967296) (S : Src) (hS : S.ok B.l) (of : Int) (hm : inI of) :
    PtrF Try.prog 123 B.pars (S.cells B) ((oneF B.l S of).1.cells B) [.one (.lit (.int .i64 of))] (.one (.lit (.bool (oneF B.l S of).2))) := by
  refine ptrf_of_vc (E := tb) tb_ok mix (fn := Try.f123) Try.func123 rfl (by kernel_rfl) (by kernel_rfl) (by simp [Try.f123]) (by rfl) rfl rfl (by show 1 ≤ 7; decide) rfl fun b => ?_
  (conv => whnf)
  refine ⟨_, _, ptr_ok 0 (n_c B hB S hS of hm) rfl rfl (by repeat' (first | exact lends_nil | exact lend_dead | apply lends_cons | apply lend_agg | apply lend_one | exact all2_nil | apply all2_cons | exact la_lit rfl | exact la_int (by first | rfl | omega) | exact la_row rfl rfl | exact la_loc rfl rfl rfl (by first | rfl | simp [mkL_length]) (by first | rfl | simp) | exact la_nil rfl | apply la_fn rfl | exact lend_same rfl rfl | exact lend_bor rfl rfl)) (fun p hp => ⟨1, by rw [List.mem_singleton.1 hp]; rfl⟩) (fun x hx => by cases hx), ?_⟩; (conv => whnf)
  exact ⟨⟨close_bool rfl, trivial⟩, rfl, rfl⟩
def betweenF (l : List UInt8) (S : Src) (lo hi : Int) : Src × Int := ((nF l S (hi - lo + 1)).1, lo + (nF l S (hi - lo + 1)).2)
theorem between_c (B : Byt) (hB : B.l.length ≤ 4294967296) (S : Src) (hS : S.ok B.l) (lo hi : Int) (h1 : -4294967296 ≤ lo ∧ lo ≤ hi ∧ hi ≤ 4294967296) :
    PtrF Try.prog 194 B.pars (S.cells B) ((betweenF B.l S lo hi).1.cells B) [.one (.lit (.int .i64 lo)), .one (.lit (.int .i64 hi))] (.one (.lit (.int .i64 (betweenF B.l S lo hi).2))) := by
  have hm : inI (hi - lo + 1) := by unfold inI; omega
  have hn := nF_ok hS hm
  refine ptrf_of_vc (E := tb) tb_ok mix (fn := Try.f194) Try.func194 rfl (by kernel_rfl) (by kernel_rfl) (by simp [Try.f194]) (by rfl) rfl rfl (by show 1 ≤ 7; decide) rfl fun b => ?_
  (conv => whnf)
  refine ⟨hi - lo, by rw [← wrap64_id] <;> omega, ?_⟩; (conv => whnf)
  refine ⟨hi - lo + 1, by rw [← wrap64_id] <;> omega, ?_⟩; (conv => whnf)
  refine ⟨_, _, ptr_ok 0 (n_c B hB S hS (hi - lo + 1) hm) rfl rfl (by repeat' (first | exact lends_nil | exact lend_dead | apply lends_cons | apply lend_agg | apply lend_one | exact all2_nil | apply all2_cons | exact la_lit rfl | exact la_int (by first | rfl | omega) | exact la_row rfl rfl | exact la_loc rfl rfl rfl (by first | rfl | simp [mkL_length]) (by first | rfl | simp) | exact la_nil rfl | apply la_fn rfl | exact lend_same rfl rfl | exact lend_bor rfl rfl)) (fun p hp => ⟨1, by rw [List.mem_singleton.1 hp]; rfl⟩) (fun x hx => by cases hx), ?_⟩; (conv => whnf)
  refine ⟨lo + (nF B.l S (hi - lo + 1)).2, by rw [← wrap64_id] <;> omega, ?_⟩; (conv => whnf)
  exact ⟨⟨close_int rfl, trivial⟩, rfl, rfl⟩
end Go.Proofs.Ytlijeincckbdaaa
namespace Go.Proofs.Ytlijeincckbdaaa
open Go.RowKit
set_option linter.unusedSimpArgs false
set_option linter.unusedVariables false
set_option maxRecDepth 100000
set_option maxHeartbeats 4000000
def pickF (l : List UInt8) (S : Src) (ss : List ByteArray) : Src × ByteArray := ((nF l S ss.length).1, ss.getD (nF l S ss.length).2.toNat ⟨#[]⟩)
theorem pick_c (B : Byt) (hB : B.l.length ≤ 4294967296) (S : Src) (hS : S.ok B.l) (ss : List ByteArray) (h0 : 0 < ss.length) (h1 : ss.length ≤ 4294967296) :
    PtrF Try.prog 219 B.pars (S.cells B) ((pickF B.l S ss).1.cells B) [.one (.row true 1 (ss.map eStr))] (.one (.lit (.string (pickF B.l S ss).2))) := by
  have hm : inI (ss.length : Nat) := by unfold inI; omega
  have hn := nF_ok hS hm
  refine ptrf_of_vc (E := tb) tb_ok mix (fn := Try.f219) Try.func219 rfl (by kernel_rfl) (by kernel_rfl) (by simp [Try.f219]) (by rfl) rfl rfl (by show 1 ≤ 7; decide) rfl fun b => ?_
  (conv => whnf)
  refine ⟨_, _, ptr_ok 0 (n_c B hB S hS (ss.length : Nat) hm) rfl rfl (lends_cons (lend_one (la_int (by simp))) lends_nil) (fun p hp => ⟨1, by rw [List.mem_singleton.1 hp]; rfl⟩) (fun x hx => by cases hx), ?_⟩; (conv => whnf)
  obtain ⟨q, hq⟩ : ∃ q : Nat, (nF B.l S (ss.length : Nat)).2 = (q : Int) := ⟨(nF B.l S (ss.length : Nat)).2.toNat, by omega⟩
  have hql : q < ss.length := by omega
  have hs : (pickF B.l S ss).2 = ss[q] := by
    show ss.getD (nF B.l S (ss.length : Nat)).2.toNat ⟨#[]⟩ = _
    rw [hq, Int.toNat_natCast, List.getD_eq_getElem?_getD, List.getElem?_eq_getElem hql]; rfl
  refine ⟨q, hq, _, at_map hql, ?_⟩; (conv => whnf)
  exact ⟨⟨close_str hs, trivial⟩, rfl, rfl⟩
theorem pickF_ok {l : List UInt8} {S : Src} (hS : S.ok l) {ss : List ByteArray} (h0 : 0 < ss.length) (h1 : ss.length ≤ 4294967296) : (pickF l S ss).1.ok l ∧ (pickF l S ss).1.size = S.size ∧ (pickF l S ss).2 ∈ ss := by
  have hm : inI (ss.length : Nat) := by unfold inI; omega
  have hn := nF_ok hS hm
  refine ⟨hn.1, hn.2.1, ?_⟩
  have hql : (nF l S (ss.length : Nat)).2.toNat < ss.length := by omega
  show ss.getD (nF l S (ss.length : Nat)).2.toNat ⟨#[]⟩ ∈ ss
  rw [List.getD_eq_getElem?_getD, List.getElem?_eq_getElem hql]
  exact List.getElem_mem hql
/-- Bytes that are drawn. -/
def bytesF (l : List UInt8) : Nat → Src → List UInt8 → Src × List UInt8
  | 0, S, acc => (S, acc)
  | k + 1, S, acc => bytesF l k (nF l S 256).1 (acc ++ [UInt8.ofNat (nF l S 256).2.toNat])
theorem inI256 : inI 256 := ⟨by decide, by decide⟩
theorem bytesF_ok {l : List UInt8} : ∀ (k : Nat) {S : Src} {acc : List UInt8}, S.ok l → (bytesF l k S acc).1.ok l ∧ (bytesF l k S acc).1.size = S.size ∧ (bytesF l k S acc).2.length = acc.length + k
  | 0, S, acc, h => ⟨h, rfl, rfl⟩
  | k + 1, S, acc, h => by
    have hn := nF_ok h inI256
    have := bytesF_ok k (acc := acc ++ [UInt8.ofNat (nF l S 256).2.toNat]) hn.1
    refine ⟨this.1, this.2.1.trans hn.2.1, ?_⟩
    show (bytesF l k _ _).2.length = _
    rw [this.2.2]; simp; omega
theorem byte_of {r : Int} (h0 : 0 ≤ r) (h1 : r < 256) : ((UInt8.ofNat r.toNat).toNat : Int) = IntKind.u8.wrap r := by
  have : (UInt8.ofNat r.toNat).toNat = r.toNat := by rw [UInt8.toNat_ofNat']; omega
  rw [this]
  simp [IntKind.wrap, IntKind.signed, IntKind.bits]
  omega
theorem bytes_c (B : Byt) (hB : B.l.length ≤ 4294967296) (S : Src) (hS : S.ok B.l) (k : Nat) (hk : k ≤ 4294967296) :
    PtrF Try.prog 188 B.pars (S.cells B) ((bytesF B.l k S []).1.cells B) [.one (.lit (.int .i64 (k : Nat)))] (.one (.lit (.string ⟨(bytesF B.l k S []).2.toArray⟩))) := by
  refine ptrf_of_vc (E := tb) tb_ok mix (fn := Try.f188) Try.func188 rfl (by kernel_rfl) (by kernel_rfl) (by simp [Try.f188]) (by rfl) rfl rfl (by show 1 ≤ 7; decide) rfl fun b => ?_
  (conv => whnf)
  refine ⟨LG (fun p : Nat × Src × List UInt8 => p.1 ≤ k ∧ p.2.1.ok B.l ∧ p.2.2.length = p.1 ∧ bytesF B.l (k - p.1) p.2.1 p.2.2 = bytesF B.l k S []) (fun p => k - p.1)
      (fun p => AS.of [(0, .one (.ptr 0 0)), (1, .one (.lit (.int .i64 (k : Nat)))), (4, .one (.lit (.string ⟨#[]⟩))), (5, .one (.loc 112 0 p.1)), (6, .one (.lit (.int .i64 (p.1 : Nat))))]
        [(0, .var ((p.2.1.cells B).map .lit)), (1, .par (.slice B.A B.l.length B.cap) (.row true 1 (B.l.map byteE))), (8, .pin 0 (.var b)), (112, .row true 1 (p.2.2.map byteE))]),
    lg_init (0, S, []) ⟨Nat.zero_le _, hS, rfl, rfl⟩ (weak_of (by repeat (first | refine all_cons (by first | rfl | exact eq_int rfl (by first | rfl | omega | (simp; done) | (simp; omega)) | exact eq_loc rfl (by first | rfl | omega | (simp; done) | (simp; omega)) | exact eq_bool rfl (by simp_all)) ?_ | exact all_nil)) (by repeat (first | refine all_cons (by first | rfl | exact eq_int rfl (by first | rfl | omega | (simp; done) | (simp; omega)) | exact eq_loc rfl (by first | rfl | omega | (simp; done) | (simp; omega)) | exact eq_bool rfl (by simp_all)) ?_ | exact all_nil)) rfl rfl), ?_⟩
  rintro σ m ⟨⟨i, S1, acc⟩, ⟨hi, hS1, ha, hF⟩, rfl, rfl⟩
  simp only at hi hS1 ha hF ⊢
  refine ⟨_, Weak.refl _, ?_⟩
  (conv => whnf)
  (split <;> rename_i h <;> (try simp only [decide_eq_true_eq, decide_eq_false_iff_not, Bool.not_eq_true', Bool.not_eq_false', Bool.not_eq_true, Bool.not_eq_false, List.length_map] at h) <;> conv => whnf)
  · have hn := nF_ok hS1 inI256
    refine ⟨_, _, ptr_ok 0 (n_c B hB S1 hS1 256 inI256) rfl rfl (by repeat' (first | exact lends_nil | exact lend_dead | apply lends_cons | apply lend_agg | apply lend_one | exact all2_nil | apply all2_cons | exact la_lit rfl | exact la_int (by first | rfl | omega) | exact la_row rfl rfl | exact la_loc rfl rfl rfl (by first | rfl | simp [mkL_length]) (by first | rfl | simp) | exact la_nil rfl | apply la_fn rfl | exact lend_same rfl rfl | exact lend_bor rfl rfl)) (fun p hp => ⟨1, by rw [List.mem_singleton.1 hp]; rfl⟩) (fun x hx => by cases hx), ?_⟩; (conv => whnf)
    refine ⟨_, rfl, ?_⟩; (conv => whnf)
    refine ⟨_, _, ⟨rfl, Nat.le_refl _, rfl, rfl⟩, ?_⟩; (conv => whnf)
    refine ⟨_, rfl, rfl, by simp; omega, rfl, by simp [maxLen, chunk]; omega, by simp [chunk]; omega, ?_⟩; (conv => whnf)
    (refine ⟨((i + 1 : Nat) : Int), by rw [← wrap64_id] <;> omega, ?_⟩; conv => whnf)
    have hstep : bytesF B.l (k - i) S1 acc = bytesF B.l (k - (i + 1)) (nF B.l S1 256).1 (acc ++ [UInt8.ofNat (nF B.l S1 256).2.toNat]) := by
      rw [show k - i = (k - (i + 1)) + 1 by omega]; rfl
    exact lg_back ((i + 1, (nF B.l S1 256).1, acc ++ [UInt8.ofNat (nF B.l S1 256).2.toNat]) : Nat × Src × List UInt8) ⟨by omega, hn.1, by simp [ha], hstep.symm.trans hF⟩ (by (try dsimp only); omega)
      (weak_of (all_cons rfl (all_cons rfl (all_cons rfl (all_cons (eq_loc rfl (by simp [chunk, ha])) (all_cons rfl all_nil))))) (all_cons rfl (all_cons rfl (all_cons rfl (all_cons (eq_row rfl (by simp only [List.map_append, List.map_cons, List.map_nil, byteE, byte_of hn.2.2.1 (by omega : (nF B.l S1 256).2 < 256)]; rfl)) all_nil)))) rfl rfl)
  · have : i = k := by omega
    subst this
    refine ⟨_, _, acc, ⟨rfl, by simp; omega, rfl, rfl⟩, by rw [List.drop_zero]; exact List.take_of_length_le (by simp [ha]), ?_⟩; (conv => whnf)
    have hF' : bytesF B.l i S [] = (S1, acc) := by rw [← hF, Nat.sub_self]; rfl
    rw [hF']
    exact ⟨⟨close_str rfl, trivial⟩, rfl, rfl⟩
end Go.Proofs.Ytlijeincckbdaaa
namespace Go.Proofs.Ytlijeincckbdaaa
open Go.RowKit
set_option linter.unusedSimpArgs false
set_option linter.unusedVariables false
set_option maxRecDepth 100000
set_option maxHeartbeats 4000000
def edgeL : List Int := [0, 1, -1, 2, 1000, 1001, 2147483648, 2147483647, -2147483648, 4611686018427387904, 9223372036854775807, -9223372036854775808, 1000000, 1000001]
def edgeF (l : List UInt8) (S : Src) : Src × Int := ((nF l S 14).1, edgeL.getD (nF l S 14).2.toNat 0)
theorem inI_n {k : Int} (h : 0 ≤ k ∧ k ≤ 4294967296) : inI k := by unfold inI; omega
theorem nF_at {l : List UInt8} {S : Src} (hS : S.ok l) {most : Int} (h : 0 < most ∧ most ≤ 4294967296) : ∃ q : Nat, (nF l S most).2 = (q : Int) ∧ q < most := by
  have hn := nF_ok hS (inI_n (k := most) (by omega))
  exact ⟨(nF l S most).2.toNat, by omega, by omega⟩
theorem getD_at {α : Type} {l : List α} {q : Nat} (h : q < l.length) (d : α) : l.getD q d = l[q] := by rw [List.getD_eq_getElem?_getD, List.getElem?_eq_getElem h]; rfl
theorem edge_c (B : Byt) (hB : B.l.length ≤ 4294967296) (S : Src) (hS : S.ok B.l) :
    PtrF Try.prog 124 B.pars (S.cells B) ((edgeF B.l S).1.cells B) [] (.one (.lit (.int .i64 (edgeF B.l S).2))) := by
  obtain ⟨q, hq, hql⟩ := nF_at hS (most := 14) (by omega)
  have hql' : q < edgeL.length := by show q < 14; omega
  have hr : (edgeF B.l S).2 = edgeL[q] := by show edgeL.getD (nF B.l S 14).2.toNat 0 = _; rw [hq, Int.toNat_natCast, getD_at hql']
  rw [hr]
  refine ptrf_of_vc (E := tb) tb_ok mix (fn := Try.f124) Try.func124 rfl (by kernel_rfl) (by kernel_rfl) (by simp [Try.f124]) (by rfl) rfl rfl (by show 1 ≤ 7; decide) rfl fun b => ?_
  (conv => whnf)
  refine ⟨_, _, ptr_ok 0 (n_c B hB S hS 14 (inI_n (by omega))) rfl rfl (by repeat' (first | exact lends_nil | exact lend_dead | apply lends_cons | apply lend_agg | apply lend_one | exact all2_nil | apply all2_cons | exact la_lit rfl | exact la_int (by first | rfl | omega) | exact la_row rfl rfl | exact la_loc rfl rfl rfl (by first | rfl | simp [mkL_length]) (by first | rfl | simp) | exact la_nil rfl | apply la_fn rfl | exact lend_same rfl rfl | exact lend_bor rfl rfl)) (fun p hp => ⟨1, by rw [List.mem_singleton.1 hp]; rfl⟩) (fun x hx => by cases hx), ?_⟩; (conv => whnf)
  refine ⟨q, hq, hql', ?_⟩; (conv => whnf)
  refine ⟨_, (at_map0 (f := eInt) (l := edgeL) hql' : _), ?_⟩; (conv => whnf)
  exact ⟨⟨close_int rfl, trivial⟩, rfl, rfl⟩
def names5 : List ByteArray := [⟨#[]⟩, ⟨#[65]⟩, ⟨#[57, 120]⟩, ⟨#[116, 45]⟩, ⟨#[112, 95, 49]⟩]
def names6 : List ByteArray := [⟨#[97]⟩, ⟨#[98]⟩, ⟨#[99, 45, 49]⟩, ⟨#[116, 45, 97]⟩, ⟨#[112, 45, 48]⟩, ⟨#[115, 45, 120]⟩]
def nameF (l : List UInt8) (S : Src) : Src × ByteArray := if (oneF l S 25).2 = true then pickF l (oneF l S 25).1 names5 else pickF l (oneF l S 25).1 names6
theorem nameF_ok {l : List UInt8} {S : Src} (hS : S.ok l) : (nameF l S).1.ok l ∧ (nameF l S).1.size = S.size ∧ (nameF l S).2.size ≤ 4 := by
  have hn := nF_ok hS (inI_n (k := 25) (by omega))
  have h5 : ∀ s ∈ names5, s.size ≤ 4 := by decide
  have h6 : ∀ s ∈ names6, s.size ≤ 4 := by decide
  unfold nameF
  split
  · have := pickF_ok (l := l) (S := (oneF l S 25).1) hn.1 (ss := names5) (by decide) (by decide)
    exact ⟨this.1, this.2.1.trans hn.2.1, h5 _ this.2.2⟩
  · have := pickF_ok (l := l) (S := (oneF l S 25).1) hn.1 (ss := names6) (by decide) (by decide)
    exact ⟨this.1, this.2.1.trans hn.2.1, h6 _ this.2.2⟩
theorem name_c (B : Byt) (hB : B.l.length ≤ 4294967296) (S : Src) (hS : S.ok B.l) :
    PtrF Try.prog 189 B.pars (S.cells B) ((nameF B.l S).1.cells B) [] (.one (.lit (.string (nameF B.l S).2))) := by
  have hn := nF_ok hS (inI_n (k := 25) (by omega))
  cases hb : (oneF B.l S 25).2 with
  | true =>
    have : nameF B.l S = pickF B.l (oneF B.l S 25).1 names5 := by unfold nameF; rw [if_pos hb]
    rw [this]
    refine ptrf_of_vc (E := tb) tb_ok mix (fn := Try.f189) Try.func189 rfl (by kernel_rfl) (by kernel_rfl) (by simp [Try.f189]) (by rfl) rfl rfl (by show 1 ≤ 7; decide) rfl fun b => ?_
    (conv => whnf)
    refine ⟨_, _, ptr_ok 0 (hb ▸ one_c B hB S hS 25 (inI_n (by omega))) rfl rfl (by repeat' (first | exact lends_nil | exact lend_dead | apply lends_cons | apply lend_agg | apply lend_one | exact all2_nil | apply all2_cons | exact la_lit rfl | exact la_int (by first | rfl | omega) | exact la_row rfl rfl | exact la_loc rfl rfl rfl (by first | rfl | simp [mkL_length]) (by first | rfl | simp) | exact la_nil rfl | apply la_fn rfl | exact lend_same rfl rfl | exact lend_bor rfl rfl)) (fun p hp => ⟨1, by rw [List.mem_singleton.1 hp]; rfl⟩) (fun x hx => by cases hx), ?_⟩; (conv => whnf)
    refine ⟨_, _, ptr_ok 0 (pick_c B hB (oneF B.l S 25).1 hn.1 names5 (by decide) (by decide)) rfl rfl (by repeat' (first | exact lends_nil | exact lend_dead | apply lends_cons | apply lend_agg | apply lend_one | exact all2_nil | apply all2_cons | exact la_lit rfl | exact la_int (by first | rfl | omega) | exact la_row rfl rfl | exact la_loc rfl rfl rfl (by first | rfl | simp [mkL_length]) (by first | rfl | simp) | exact la_nil rfl | apply la_fn rfl | exact lend_same rfl rfl | exact lend_bor rfl rfl)) (fun p hp => ⟨1, by rw [List.mem_singleton.1 hp]; rfl⟩) (fun x hx => by cases hx), ?_⟩; (conv => whnf)
    exact ⟨⟨close_str rfl, trivial⟩, rfl, rfl⟩
  | false =>
    have : nameF B.l S = pickF B.l (oneF B.l S 25).1 names6 := by unfold nameF; rw [if_neg (by rw [hb]; decide)]
    rw [this]
    refine ptrf_of_vc (E := tb) tb_ok mix (fn := Try.f189) Try.func189 rfl (by kernel_rfl) (by kernel_rfl) (by simp [Try.f189]) (by rfl) rfl rfl (by show 1 ≤ 7; decide) rfl fun b => ?_
    (conv => whnf)
    refine ⟨_, _, ptr_ok 0 (hb ▸ one_c B hB S hS 25 (inI_n (by omega))) rfl rfl (by repeat' (first | exact lends_nil | exact lend_dead | apply lends_cons | apply lend_agg | apply lend_one | exact all2_nil | apply all2_cons | exact la_lit rfl | exact la_int (by first | rfl | omega) | exact la_row rfl rfl | exact la_loc rfl rfl rfl (by first | rfl | simp [mkL_length]) (by first | rfl | simp) | exact la_nil rfl | apply la_fn rfl | exact lend_same rfl rfl | exact lend_bor rfl rfl)) (fun p hp => ⟨1, by rw [List.mem_singleton.1 hp]; rfl⟩) (fun x hx => by cases hx), ?_⟩; (conv => whnf)
    refine ⟨_, _, ptr_ok 0 (pick_c B hB (oneF B.l S 25).1 hn.1 names6 (by decide) (by decide)) rfl rfl (by repeat' (first | exact lends_nil | exact lend_dead | apply lends_cons | apply lend_agg | apply lend_one | exact all2_nil | apply all2_cons | exact la_lit rfl | exact la_int (by first | rfl | omega) | exact la_row rfl rfl | exact la_loc rfl rfl rfl (by first | rfl | simp [mkL_length]) (by first | rfl | simp) | exact la_nil rfl | apply la_fn rfl | exact lend_same rfl rfl | exact lend_bor rfl rfl)) (fun p hp => ⟨1, by rw [List.mem_singleton.1 hp]; rfl⟩) (fun x hx => by cases hx), ?_⟩; (conv => whnf)
    exact ⟨⟨close_str rfl, trivial⟩, rfl, rfl⟩
end Go.Proofs.Ytlijeincckbdaaa
