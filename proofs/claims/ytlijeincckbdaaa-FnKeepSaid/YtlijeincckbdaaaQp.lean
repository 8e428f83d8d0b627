/- Contracts (reference): lists and ops that are drawn; the source of draws. -/
import Derived.Test.YtlijeincckbdaaaQn
namespace Go.Proofs.Ytlijeincckbdaaa
open Go.RowKit
set_option linter.unusedSimpArgs false
set_option linter.unusedVariables false
set_option maxRecDepth 100000
set_option maxHeartbeats 4000000
def listF (l : List UInt8) (lo hi : Int) : Nat → Src → List Int → Src × List Int
  | 0, S, acc => (S, acc)
  | k + 1, S, acc => listF l lo hi k (betweenF l S lo hi).1 (acc ++ [(betweenF l S lo hi).2])
theorem betweenF_ok {l : List UInt8} {S : Src} (hS : S.ok l) {lo hi : Int} (h1 : -4294967296 ≤ lo ∧ lo ≤ hi ∧ hi ≤ 4294967296) : (betweenF l S lo hi).1.ok l ∧ (betweenF l S lo hi).1.size = S.size ∧ lo ≤ (betweenF l S lo hi).2 ∧ (betweenF l S lo hi).2 ≤ hi := by
  have hm : inI (hi - lo + 1) := by unfold inI; omega
  have hn := nF_ok hS hm
  refine ⟨hn.1, hn.2.1, ?_, ?_⟩ <;> simp only [betweenF] <;> omega
theorem listF_ok {l : List UInt8} {lo hi : Int} (h1 : -4294967296 ≤ lo ∧ lo ≤ hi ∧ hi ≤ 4294967296) : ∀ (k : Nat) {S : Src} {acc : List Int}, S.ok l → (∀ x ∈ acc, inI x) → (listF l lo hi k S acc).1.ok l ∧ (listF l lo hi k S acc).1.size = S.size ∧ (listF l lo hi k S acc).2.length = acc.length + k ∧ ∀ x ∈ (listF l lo hi k S acc).2, inI x
  | 0, S, acc, h, ha => ⟨h, rfl, rfl, ha⟩
  | k + 1, S, acc, h, ha => by
    have hn := betweenF_ok h h1
    have := listF_ok h1 k (acc := acc ++ [(betweenF l S lo hi).2]) hn.1 (fun x hx => by
      rw [List.mem_append, List.mem_singleton] at hx
      rcases hx with h | rfl
      · exact ha x h
      · unfold inI; omega)
    refine ⟨this.1, this.2.1.trans hn.2.1, ?_, this.2.2.2⟩
    show (listF l lo hi k _ _).2.length = _
    rw [this.2.2.1]; simp; omega
theorem list_c (B : Byt) (hB : B.l.length ≤ 4294967296) (S : Src) (hS : S.ok B.l) (k : Nat) (hk : k ≤ 4294967296) (lo hi : Int) (h1 : -4294967296 ≤ lo ∧ lo ≤ hi ∧ hi ≤ 4294967296) :
    PtrF Try.prog 121 B.pars (S.cells B) ((listF B.l lo hi k S []).1.cells B) [.one (.lit (.int .i64 (k : Nat))), .one (.lit (.int .i64 lo)), .one (.lit (.int .i64 hi))] (.one (.row true 1 ((listF B.l lo hi k S []).2.map eInt))) := by
  refine ptrf_of_vc (E := tb) tb_ok mix (fn := Try.f121) Try.func121 rfl (by kernel_rfl) (by kernel_rfl) (by simp [Try.f121]) (by show AV.nb (4 + 1) _ = true; exact nb_map (n := 4) (fun y => rfl) _) rfl rfl (by show 1 ≤ 7; decide) rfl fun b => ?_
  (conv => whnf)
  refine ⟨LG (fun p : Nat × Src × List Int => p.1 ≤ k ∧ p.2.1.ok B.l ∧ p.2.2.length = k - p.1 ∧ listF B.l lo hi p.1 p.2.1 p.2.2 = listF B.l lo hi k S []) (fun p => p.1)
      (fun p => AS.of [(0, .one (.ptr 0 0)), (1, .one (.lit (.int .i64 (p.1 : Nat)))), (2, .one (.lit (.int .i64 lo))), (3, .one (.lit (.int .i64 hi))), (9, .one (.loc 160 0 (k - p.1)))]
        [(0, .var ((p.2.1.cells B).map .lit)), (1, .par (.slice B.A B.l.length B.cap) (.row true 1 (B.l.map byteE))), (8, .pin 0 (.var b)), (160, .row true 1 (p.2.2.map eInt))]),
    lg_init (k, S, []) ⟨Nat.le_refl _, hS, by simp, rfl⟩ (weak_of (all_cons rfl (all_cons rfl (all_cons rfl (all_cons rfl (all_cons (eq_loc rfl (by simp)) all_nil))))) (by repeat (first | refine all_cons (by first | rfl | exact eq_int rfl (by first | rfl | omega | (simp; done) | (simp; omega)) | exact eq_loc rfl (by first | rfl | omega | (simp; done) | (simp; omega)) | exact eq_bool rfl (by simp_all)) ?_ | exact all_nil)) rfl rfl), ?_⟩
  rintro σ m0 ⟨⟨i, S1, acc⟩, ⟨hi', hS1, ha, hF⟩, hm0, rfl⟩
  simp only at hi' hS1 ha hF hm0 ⊢
  refine ⟨_, Weak.refl _, ?_⟩
  (conv => whnf)
  (split <;> rename_i h <;> (try simp only [decide_eq_true_eq, decide_eq_false_iff_not, Bool.not_eq_true', Bool.not_eq_false', Bool.not_eq_true, Bool.not_eq_false, List.length_map] at h) <;> conv => whnf)
  · obtain ⟨j, rfl⟩ : ∃ j, i = j + 1 := ⟨i - 1, by omega⟩
    have hn := betweenF_ok hS1 h1
    refine ⟨_, _, ptr_ok 0 (between_c B hB S1 hS1 lo hi h1) rfl rfl (by repeat' (first | exact lends_nil | exact lend_dead | apply lends_cons | apply lend_agg | apply lend_one | exact all2_nil | apply all2_cons | exact la_lit rfl | exact la_int (by first | rfl | omega) | exact la_row rfl rfl | exact la_loc rfl rfl rfl (by first | rfl | simp [mkL_length]) (by first | rfl | simp) | exact la_nil rfl | apply la_fn rfl | exact lend_same rfl rfl | exact lend_bor rfl rfl)) (fun p hp => ⟨1, by rw [List.mem_singleton.1 hp]; rfl⟩) (fun x hx => by cases hx), ?_⟩; (conv => whnf)
    refine ⟨_, _, ⟨rfl, Nat.le_refl _, rfl, rfl⟩, ?_⟩; (conv => whnf)
    refine ⟨_, rfl, rfl, by simp; omega, rfl, by simp [maxLen, chunk]; omega, by simp [chunk]; omega, ?_⟩; (conv => whnf)
    refine ⟨(j : Int), by rw [← wrap64_id] <;> omega, ?_⟩; (conv => whnf)
    exact lg_back ((j, (betweenF B.l S1 lo hi).1, acc ++ [(betweenF B.l S1 lo hi).2]) : Nat × Src × List Int) ⟨by omega, hn.1, by simp [ha]; omega, hF⟩ (by (try dsimp only); omega)
      (weak_of (all_cons rfl (all_cons rfl (all_cons rfl (all_cons rfl (all_cons (eq_loc rfl (by simp [chunk]; omega)) all_nil))))) (all_cons rfl (all_cons rfl (all_cons rfl (all_cons (eq_row rfl (by simp only [List.map_append, List.map_cons, List.map_nil, eInt]; rfl)) all_nil)))) rfl rfl)
  · have : i = 0 := by omega
    subst this
    have hF' : listF B.l lo hi k S [] = (S1, acc) := hF.symm
    rw [hF']
    exact ⟨⟨close_row rfl rfl (by simp [ha]) (by simp), trivial⟩, rfl, rfl⟩
/-- The end of an op that is drawn. -/
def opT (l : List UInt8) (k : Int) (name : ByteArray) (S : Src) (to text : ByteArray) : Src × DOp :=
  if (oneF l S 25).2 = true then
    if (nF l (oneF l S 25).1 3).2 = 0 then ((nF l (nF l (oneF l S 25).1 3).1 7).1, ⟨(nF l (nF l (oneF l S 25).1 3).1 7).2 - 1, name, to, text⟩)
    else if (nF l (oneF l S 25).1 3).2 = 1 then ((nF l (oneF l S 25).1 3).1, ⟨k, name, ⟨#[120]⟩, text⟩)
    else ((nF l (oneF l S 25).1 3).1, ⟨k, name, to, ⟨#[120]⟩⟩)
  else ((oneF l S 25).1, ⟨k, name, to, text⟩)
def opF (l : List UInt8) (S : Src) : Src × DOp :=
  if 1 + (nF l S 4).2 = 1 then opT l (1 + (nF l S 4).2) (nameF l (nF l S 4).1).2 (bytesF l (nF l (nameF l (nF l S 4).1).1 12).2.toNat (nF l (nameF l (nF l S 4).1).1 12).1 []).1 ⟨#[]⟩ ⟨(bytesF l (nF l (nameF l (nF l S 4).1).1 12).2.toNat (nF l (nameF l (nF l S 4).1).1 12).1 []).2.toArray⟩
  else if 1 + (nF l S 4).2 = 3 then opT l (1 + (nF l S 4).2) (nameF l (nF l S 4).1).2 (nameF l (nameF l (nF l S 4).1).1).1 (nameF l (nameF l (nF l S 4).1).1).2 ⟨#[]⟩
  else opT l (1 + (nF l S 4).2) (nameF l (nF l S 4).1).2 (nameF l (nF l S 4).1).1 ⟨#[]⟩ ⟨#[]⟩
theorem op_c (B : Byt) (hB : B.l.length ≤ 4294967296) (S : Src) (hS : S.ok B.l) (res : Src × DOp) (hres : opF B.l S = res) :
    PtrF Try.prog 114 B.pars (S.cells B) (res.1.cells B) [] (.agg res.2.enc) := by
  obtain ⟨p1, e1⟩ : ∃ p, nF B.l S 4 = p := ⟨_, rfl⟩
  have c1 := n_c B hB S hS 4 (inI_n (by omega))
  have h4 := nF_ok hS (inI_n (k := 4) (by omega))
  rw [e1] at c1 h4
  obtain ⟨p2, e2⟩ : ∃ p, nameF B.l p1.1 = p := ⟨_, rfl⟩
  have c2 := name_c B hB p1.1 h4.1
  have hnm := nameF_ok h4.1
  rw [e2] at c2 hnm
  refine ptrf_of_vc (E := tb) tb_ok mix (fn := Try.f114) Try.func114 rfl (by kernel_rfl) (by kernel_rfl) (by simp [Try.f114]) (by rfl) rfl rfl (by show 1 ≤ 7; decide) rfl fun b => ?_
  (conv => whnf)
  refine ⟨_, _, ptr_ok 0 (c1) rfl rfl (by repeat' (first | exact lends_nil | exact lend_dead | apply lends_cons | apply lend_agg | apply lend_one | exact all2_nil | apply all2_cons | exact la_lit rfl | exact la_int (by first | rfl | omega) | exact la_row rfl rfl | exact la_loc rfl rfl rfl (by first | rfl | simp [mkL_length]) (by first | rfl | simp) | exact la_nil rfl | apply la_fn rfl | exact lend_same rfl rfl | exact lend_bor rfl rfl)) (fun p hp => ⟨1, by rw [List.mem_singleton.1 hp]; rfl⟩) (fun x hx => by cases hx), ?_⟩; (conv => whnf)
  refine ⟨1 + p1.2, by rw [← wrap64_id] <;> omega, ?_⟩; (conv => whnf)
  refine ⟨_, _, ptr_ok 0 (c2) rfl rfl (by repeat' (first | exact lends_nil | exact lend_dead | apply lends_cons | apply lend_agg | apply lend_one | exact all2_nil | apply all2_cons | exact la_lit rfl | exact la_int (by first | rfl | omega) | exact la_row rfl rfl | exact la_loc rfl rfl rfl (by first | rfl | simp [mkL_length]) (by first | rfl | simp) | exact la_nil rfl | apply la_fn rfl | exact lend_same rfl rfl | exact lend_bor rfl rfl)) (fun p hp => ⟨1, by rw [List.mem_singleton.1 hp]; rfl⟩) (fun x hx => by cases hx), ?_⟩; (conv => whnf)
  (split <;> rename_i hk <;> (try simp only [decide_eq_true_eq, decide_eq_false_iff_not, Bool.not_eq_true', Bool.not_eq_false', Bool.not_eq_true, Bool.not_eq_false, List.length_map] at hk) <;> conv => whnf)
  · obtain ⟨p3, f3⟩ : ∃ p, nF B.l p2.1 12 = p := ⟨_, rfl⟩
    have c3 := n_c B hB p2.1 hnm.1 12 (inI_n (by omega))
    have h12 := nF_ok hnm.1 (inI_n (k := 12) (by omega))
    rw [f3] at c3 h12
    obtain ⟨p4, f4⟩ : ∃ p, bytesF B.l p3.2.toNat p3.1 [] = p := ⟨_, rfl⟩
    have c4 := bytes_c B hB p3.1 h12.1 p3.2.toNat (by omega)
    have hby := bytesF_ok (l := B.l) p3.2.toNat (acc := []) h12.1
    rw [f4] at c4 hby
    have hE : opF B.l S = opT B.l (1 + p1.2) p2.2 p4.1 ⟨#[]⟩ ⟨p4.2.toArray⟩ := by unfold opF; rw [e1, if_pos hk, e2, f3, f4]
    refine ⟨_, _, ptr_ok 0 (c3) rfl rfl (by repeat' (first | exact lends_nil | exact lend_dead | apply lends_cons | apply lend_agg | apply lend_one | exact all2_nil | apply all2_cons | exact la_lit rfl | exact la_int (by first | rfl | omega) | exact la_row rfl rfl | exact la_loc rfl rfl rfl (by first | rfl | simp [mkL_length]) (by first | rfl | simp) | exact la_nil rfl | apply la_fn rfl | exact lend_same rfl rfl | exact lend_bor rfl rfl)) (fun p hp => ⟨1, by rw [List.mem_singleton.1 hp]; rfl⟩) (fun x hx => by cases hx), ?_⟩; (conv => whnf)
    refine ⟨_, _, ptr_ok 0 (c4) rfl rfl (lends_cons (lend_one (la_int (by omega))) lends_nil) (fun p hp => ⟨1, by rw [List.mem_singleton.1 hp]; rfl⟩) (fun x hx => by cases hx), ?_⟩; (conv => whnf)
    obtain ⟨q1, e3⟩ : ∃ q, oneF B.l p4.1 25 = q := ⟨_, rfl⟩
    have d1 := one_c B hB p4.1 hby.1 25 (inI_n (by omega))
    have k1 : (oneF B.l p4.1 25).1.ok B.l := (nF_ok hby.1 (inI_n (k := 25) (by omega))).1
    rw [e3] at d1 k1
    obtain ⟨q2, e4⟩ : ∃ q, nF B.l q1.1 3 = q := ⟨_, rfl⟩
    have d2 := n_c B hB q1.1 k1 3 (inI_n (by omega))
    have k2 := nF_ok k1 (inI_n (k := 3) (by omega))
    rw [e4] at d2 k2
    obtain ⟨q3, e5⟩ : ∃ q, nF B.l q2.1 7 = q := ⟨_, rfl⟩
    have d3 := n_c B hB q2.1 k2.1 7 (inI_n (by omega))
    have k3 := nF_ok k2.1 (inI_n (k := 7) (by omega))
    rw [e5] at d3 k3
    refine ⟨_, _, ptr_ok 0 (d1) rfl rfl (by repeat' (first | exact lends_nil | exact lend_dead | apply lends_cons | apply lend_agg | apply lend_one | exact all2_nil | apply all2_cons | exact la_lit rfl | exact la_int (by first | rfl | omega) | exact la_row rfl rfl | exact la_loc rfl rfl rfl (by first | rfl | simp [mkL_length]) (by first | rfl | simp) | exact la_nil rfl | apply la_fn rfl | exact lend_same rfl rfl | exact lend_bor rfl rfl)) (fun p hp => ⟨1, by rw [List.mem_singleton.1 hp]; rfl⟩) (fun x hx => by cases hx), ?_⟩; (conv => whnf)
    (split <;> rename_i hb <;> (try simp only [decide_eq_true_eq, decide_eq_false_iff_not, Bool.not_eq_true', Bool.not_eq_false', Bool.not_eq_true, Bool.not_eq_false, List.length_map] at hb) <;> conv => whnf)
    · refine ⟨_, _, ptr_ok 0 (d2) rfl rfl (by repeat' (first | exact lends_nil | exact lend_dead | apply lends_cons | apply lend_agg | apply lend_one | exact all2_nil | apply all2_cons | exact la_lit rfl | exact la_int (by first | rfl | omega) | exact la_row rfl rfl | exact la_loc rfl rfl rfl (by first | rfl | simp [mkL_length]) (by first | rfl | simp) | exact la_nil rfl | apply la_fn rfl | exact lend_same rfl rfl | exact lend_bor rfl rfl)) (fun p hp => ⟨1, by rw [List.mem_singleton.1 hp]; rfl⟩) (fun x hx => by cases hx), ?_⟩; (conv => whnf)
      (split <;> rename_i h0 <;> (try simp only [decide_eq_true_eq, decide_eq_false_iff_not, Bool.not_eq_true', Bool.not_eq_false', Bool.not_eq_true, Bool.not_eq_false, List.length_map] at h0) <;> conv => whnf)
      · refine ⟨_, _, ptr_ok 0 (d3) rfl rfl (by repeat' (first | exact lends_nil | exact lend_dead | apply lends_cons | apply lend_agg | apply lend_one | exact all2_nil | apply all2_cons | exact la_lit rfl | exact la_int (by first | rfl | omega) | exact la_row rfl rfl | exact la_loc rfl rfl rfl (by first | rfl | simp [mkL_length]) (by first | rfl | simp) | exact la_nil rfl | apply la_fn rfl | exact lend_same rfl rfl | exact lend_bor rfl rfl)) (fun p hp => ⟨1, by rw [List.mem_singleton.1 hp]; rfl⟩) (fun x hx => by cases hx), ?_⟩; (conv => whnf)
        refine ⟨q3.2 - 1, by rw [← wrap64_id] <;> omega, ?_⟩; (conv => whnf)
        have he : res = (q3.1, ⟨q3.2 - 1, p2.2, ⟨#[]⟩, ⟨p4.2.toArray⟩⟩) := by rw [← hres, hE]; unfold opT; rw [e3, if_pos hb, e4, if_pos h0, e5]
        subst he
        exact ⟨⟨close_int rfl, close_str rfl, close_str rfl, close_str rfl, trivial⟩, rfl, rfl⟩
      · (split <;> rename_i h2 <;> (try simp only [decide_eq_true_eq, decide_eq_false_iff_not, Bool.not_eq_true', Bool.not_eq_false', Bool.not_eq_true, Bool.not_eq_false, List.length_map] at h2) <;> conv => whnf)
        · have he : res = (q2.1, ⟨1 + p1.2, p2.2, ⟨#[120]⟩, ⟨p4.2.toArray⟩⟩) := by rw [← hres, hE]; unfold opT; rw [e3, if_pos hb, e4, if_neg h0, if_pos h2]
          subst he
          exact ⟨⟨close_int rfl, close_str rfl, close_str rfl, close_str rfl, trivial⟩, rfl, rfl⟩
        · have he : res = (q2.1, ⟨1 + p1.2, p2.2, ⟨#[]⟩, ⟨#[120]⟩⟩) := by rw [← hres, hE]; unfold opT; rw [e3, if_pos hb, e4, if_neg h0, if_neg h2]
          subst he
          exact ⟨⟨close_int rfl, close_str rfl, close_str rfl, close_str rfl, trivial⟩, rfl, rfl⟩
    · have he : res = (q1.1, ⟨1 + p1.2, p2.2, ⟨#[]⟩, ⟨p4.2.toArray⟩⟩) := by rw [← hres, hE]; unfold opT; rw [e3, if_neg (by rw [hb]; decide)]
      subst he
      exact ⟨⟨close_int rfl, close_str rfl, close_str rfl, close_str rfl, trivial⟩, rfl, rfl⟩
  · (split <;> rename_i hk3 <;> (try simp only [decide_eq_true_eq, decide_eq_false_iff_not, Bool.not_eq_true', Bool.not_eq_false', Bool.not_eq_true, Bool.not_eq_false, List.length_map] at hk3) <;> conv => whnf)
    · obtain ⟨p3, f3⟩ : ∃ p, nameF B.l p2.1 = p := ⟨_, rfl⟩
      have c3 := name_c B hB p2.1 hnm.1
      have hn2 := nameF_ok hnm.1
      rw [f3] at c3 hn2
      have hE : opF B.l S = opT B.l (1 + p1.2) p2.2 p3.1 p3.2 ⟨#[]⟩ := by unfold opF; rw [e1, if_neg hk, if_pos hk3, e2, f3]
      refine ⟨_, _, ptr_ok 0 (c3) rfl rfl (by repeat' (first | exact lends_nil | exact lend_dead | apply lends_cons | apply lend_agg | apply lend_one | exact all2_nil | apply all2_cons | exact la_lit rfl | exact la_int (by first | rfl | omega) | exact la_row rfl rfl | exact la_loc rfl rfl rfl (by first | rfl | simp [mkL_length]) (by first | rfl | simp) | exact la_nil rfl | apply la_fn rfl | exact lend_same rfl rfl | exact lend_bor rfl rfl)) (fun p hp => ⟨1, by rw [List.mem_singleton.1 hp]; rfl⟩) (fun x hx => by cases hx), ?_⟩; (conv => whnf)
      obtain ⟨q1, e3⟩ : ∃ q, oneF B.l p3.1 25 = q := ⟨_, rfl⟩
      have d1 := one_c B hB p3.1 hn2.1 25 (inI_n (by omega))
      have k1 : (oneF B.l p3.1 25).1.ok B.l := (nF_ok hn2.1 (inI_n (k := 25) (by omega))).1
      rw [e3] at d1 k1
      obtain ⟨q2, e4⟩ : ∃ q, nF B.l q1.1 3 = q := ⟨_, rfl⟩
      have d2 := n_c B hB q1.1 k1 3 (inI_n (by omega))
      have k2 := nF_ok k1 (inI_n (k := 3) (by omega))
      rw [e4] at d2 k2
      obtain ⟨q3, e5⟩ : ∃ q, nF B.l q2.1 7 = q := ⟨_, rfl⟩
      have d3 := n_c B hB q2.1 k2.1 7 (inI_n (by omega))
      have k3 := nF_ok k2.1 (inI_n (k := 7) (by omega))
      rw [e5] at d3 k3
      refine ⟨_, _, ptr_ok 0 (d1) rfl rfl (by repeat' (first | exact lends_nil | exact lend_dead | apply lends_cons | apply lend_agg | apply lend_one | exact all2_nil | apply all2_cons | exact la_lit rfl | exact la_int (by first | rfl | omega) | exact la_row rfl rfl | exact la_loc rfl rfl rfl (by first | rfl | simp [mkL_length]) (by first | rfl | simp) | exact la_nil rfl | apply la_fn rfl | exact lend_same rfl rfl | exact lend_bor rfl rfl)) (fun p hp => ⟨1, by rw [List.mem_singleton.1 hp]; rfl⟩) (fun x hx => by cases hx), ?_⟩; (conv => whnf)
      (split <;> rename_i hb <;> (try simp only [decide_eq_true_eq, decide_eq_false_iff_not, Bool.not_eq_true', Bool.not_eq_false', Bool.not_eq_true, Bool.not_eq_false, List.length_map] at hb) <;> conv => whnf)
      · refine ⟨_, _, ptr_ok 0 (d2) rfl rfl (by repeat' (first | exact lends_nil | exact lend_dead | apply lends_cons | apply lend_agg | apply lend_one | exact all2_nil | apply all2_cons | exact la_lit rfl | exact la_int (by first | rfl | omega) | exact la_row rfl rfl | exact la_loc rfl rfl rfl (by first | rfl | simp [mkL_length]) (by first | rfl | simp) | exact la_nil rfl | apply la_fn rfl | exact lend_same rfl rfl | exact lend_bor rfl rfl)) (fun p hp => ⟨1, by rw [List.mem_singleton.1 hp]; rfl⟩) (fun x hx => by cases hx), ?_⟩; (conv => whnf)
        (split <;> rename_i h0 <;> (try simp only [decide_eq_true_eq, decide_eq_false_iff_not, Bool.not_eq_true', Bool.not_eq_false', Bool.not_eq_true, Bool.not_eq_false, List.length_map] at h0) <;> conv => whnf)
        · refine ⟨_, _, ptr_ok 0 (d3) rfl rfl (by repeat' (first | exact lends_nil | exact lend_dead | apply lends_cons | apply lend_agg | apply lend_one | exact all2_nil | apply all2_cons | exact la_lit rfl | exact la_int (by first | rfl | omega) | exact la_row rfl rfl | exact la_loc rfl rfl rfl (by first | rfl | simp [mkL_length]) (by first | rfl | simp) | exact la_nil rfl | apply la_fn rfl | exact lend_same rfl rfl | exact lend_bor rfl rfl)) (fun p hp => ⟨1, by rw [List.mem_singleton.1 hp]; rfl⟩) (fun x hx => by cases hx), ?_⟩; (conv => whnf)
          refine ⟨q3.2 - 1, by rw [← wrap64_id] <;> omega, ?_⟩; (conv => whnf)
          have he : res = (q3.1, ⟨q3.2 - 1, p2.2, p3.2, ⟨#[]⟩⟩) := by rw [← hres, hE]; unfold opT; rw [e3, if_pos hb, e4, if_pos h0, e5]
          subst he
          exact ⟨⟨close_int rfl, close_str rfl, close_str rfl, close_str rfl, trivial⟩, rfl, rfl⟩
        · (split <;> rename_i h2 <;> (try simp only [decide_eq_true_eq, decide_eq_false_iff_not, Bool.not_eq_true', Bool.not_eq_false', Bool.not_eq_true, Bool.not_eq_false, List.length_map] at h2) <;> conv => whnf)
          · have he : res = (q2.1, ⟨1 + p1.2, p2.2, ⟨#[120]⟩, ⟨#[]⟩⟩) := by rw [← hres, hE]; unfold opT; rw [e3, if_pos hb, e4, if_neg h0, if_pos h2]
            subst he
            exact ⟨⟨close_int rfl, close_str rfl, close_str rfl, close_str rfl, trivial⟩, rfl, rfl⟩
          · have he : res = (q2.1, ⟨1 + p1.2, p2.2, p3.2, ⟨#[120]⟩⟩) := by rw [← hres, hE]; unfold opT; rw [e3, if_pos hb, e4, if_neg h0, if_neg h2]
            subst he
            exact ⟨⟨close_int rfl, close_str rfl, close_str rfl, close_str rfl, trivial⟩, rfl, rfl⟩
      · have he : res = (q1.1, ⟨1 + p1.2, p2.2, p3.2, ⟨#[]⟩⟩) := by rw [← hres, hE]; unfold opT; rw [e3, if_neg (by rw [hb]; decide)]
        subst he
        exact ⟨⟨close_int rfl, close_str rfl, close_str rfl, close_str rfl, trivial⟩, rfl, rfl⟩
    · have hE : opF B.l S = opT B.l (1 + p1.2) p2.2 p2.1 ⟨#[]⟩ ⟨#[]⟩ := by unfold opF; rw [e1, if_neg hk, if_neg hk3, e2]
      obtain ⟨q1, e3⟩ : ∃ q, oneF B.l p2.1 25 = q := ⟨_, rfl⟩
      have d1 := one_c B hB p2.1 hnm.1 25 (inI_n (by omega))
      have k1 : (oneF B.l p2.1 25).1.ok B.l := (nF_ok hnm.1 (inI_n (k := 25) (by omega))).1
      rw [e3] at d1 k1
      obtain ⟨q2, e4⟩ : ∃ q, nF B.l q1.1 3 = q := ⟨_, rfl⟩
      have d2 := n_c B hB q1.1 k1 3 (inI_n (by omega))
      have k2 := nF_ok k1 (inI_n (k := 3) (by omega))
      rw [e4] at d2 k2
      obtain ⟨q3, e5⟩ : ∃ q, nF B.l q2.1 7 = q := ⟨_, rfl⟩
      have d3 := n_c B hB q2.1 k2.1 7 (inI_n (by omega))
      have k3 := nF_ok k2.1 (inI_n (k := 7) (by omega))
      rw [e5] at d3 k3
      refine ⟨_, _, ptr_ok 0 (d1) rfl rfl (by repeat' (first | exact lends_nil | exact lend_dead | apply lends_cons | apply lend_agg | apply lend_one | exact all2_nil | apply all2_cons | exact la_lit rfl | exact la_int (by first | rfl | omega) | exact la_row rfl rfl | exact la_loc rfl rfl rfl (by first | rfl | simp [mkL_length]) (by first | rfl | simp) | exact la_nil rfl | apply la_fn rfl | exact lend_same rfl rfl | exact lend_bor rfl rfl)) (fun p hp => ⟨1, by rw [List.mem_singleton.1 hp]; rfl⟩) (fun x hx => by cases hx), ?_⟩; (conv => whnf)
      (split <;> rename_i hb <;> (try simp only [decide_eq_true_eq, decide_eq_false_iff_not, Bool.not_eq_true', Bool.not_eq_false', Bool.not_eq_true, Bool.not_eq_false, List.length_map] at hb) <;> conv => whnf)
      · refine ⟨_, _, ptr_ok 0 (d2) rfl rfl (by repeat' (first | exact lends_nil | exact lend_dead | apply lends_cons | apply lend_agg | apply lend_one | exact all2_nil | apply all2_cons | exact la_lit rfl | exact la_int (by first | rfl | omega) | exact la_row rfl rfl | exact la_loc rfl rfl rfl (by first | rfl | simp [mkL_length]) (by first | rfl | simp) | exact la_nil rfl | apply la_fn rfl | exact lend_same rfl rfl | exact lend_bor rfl rfl)) (fun p hp => ⟨1, by rw [List.mem_singleton.1 hp]; rfl⟩) (fun x hx => by cases hx), ?_⟩; (conv => whnf)
        (split <;> rename_i h0 <;> (try simp only [decide_eq_true_eq, decide_eq_false_iff_not, Bool.not_eq_true', Bool.not_eq_false', Bool.not_eq_true, Bool.not_eq_false, List.length_map] at h0) <;> conv => whnf)
        · refine ⟨_, _, ptr_ok 0 (d3) rfl rfl (by repeat' (first | exact lends_nil | exact lend_dead | apply lends_cons | apply lend_agg | apply lend_one | exact all2_nil | apply all2_cons | exact la_lit rfl | exact la_int (by first | rfl | omega) | exact la_row rfl rfl | exact la_loc rfl rfl rfl (by first | rfl | simp [mkL_length]) (by first | rfl | simp) | exact la_nil rfl | apply la_fn rfl | exact lend_same rfl rfl | exact lend_bor rfl rfl)) (fun p hp => ⟨1, by rw [List.mem_singleton.1 hp]; rfl⟩) (fun x hx => by cases hx), ?_⟩; (conv => whnf)
          refine ⟨q3.2 - 1, by rw [← wrap64_id] <;> omega, ?_⟩; (conv => whnf)
          have he : res = (q3.1, ⟨q3.2 - 1, p2.2, ⟨#[]⟩, ⟨#[]⟩⟩) := by rw [← hres, hE]; unfold opT; rw [e3, if_pos hb, e4, if_pos h0, e5]
          subst he
          exact ⟨⟨close_int rfl, close_str rfl, close_str rfl, close_str rfl, trivial⟩, rfl, rfl⟩
        · (split <;> rename_i h2 <;> (try simp only [decide_eq_true_eq, decide_eq_false_iff_not, Bool.not_eq_true', Bool.not_eq_false', Bool.not_eq_true, Bool.not_eq_false, List.length_map] at h2) <;> conv => whnf)
          · have he : res = (q2.1, ⟨1 + p1.2, p2.2, ⟨#[120]⟩, ⟨#[]⟩⟩) := by rw [← hres, hE]; unfold opT; rw [e3, if_pos hb, e4, if_neg h0, if_pos h2]
            subst he
            exact ⟨⟨close_int rfl, close_str rfl, close_str rfl, close_str rfl, trivial⟩, rfl, rfl⟩
          · have he : res = (q2.1, ⟨1 + p1.2, p2.2, ⟨#[]⟩, ⟨#[120]⟩⟩) := by rw [← hres, hE]; unfold opT; rw [e3, if_pos hb, e4, if_neg h0, if_neg h2]
            subst he
            exact ⟨⟨close_int rfl, close_str rfl, close_str rfl, close_str rfl, trivial⟩, rfl, rfl⟩
      · have he : res = (q1.1, ⟨1 + p1.2, p2.2, ⟨#[]⟩, ⟨#[]⟩⟩) := by rw [← hres, hE]; unfold opT; rw [e3, if_neg (by rw [hb]; decide)]
        subst he
        exact ⟨⟨close_int rfl, close_str rfl, close_str rfl, close_str rfl, trivial⟩, rfl, rfl⟩
end Go.Proofs.Ytlijeincckbdaaa
namespace Go.Proofs.Ytlijeincckbdaaa
open Go.RowKit
set_option linter.unusedSimpArgs false
set_option linter.unusedVariables false
set_option maxRecDepth 100000
set_option maxHeartbeats 4000000
def smallOp (o : DOp) : Prop := o.ok ∧ o.name.size ≤ 4 ∧ o.to.size ≤ 4 ∧ o.text.size ≤ 12
theorem opT_ok {l : List UInt8} {k : Int} (hk : inI k) {name to text : ByteArray} (h1 : name.size ≤ 4) (h2 : to.size ≤ 4) (h3 : text.size ≤ 12) {S : Src} (hS : S.ok l) : (opT l k name S to text).1.ok l ∧ (opT l k name S to text).1.size = S.size ∧ smallOp (opT l k name S to text).2 := by
  have k1 := nF_ok hS (inI_n (k := 25) (by omega))
  have k2 := nF_ok k1.1 (inI_n (k := 3) (by omega))
  have k3 := nF_ok k2.1 (inI_n (k := 7) (by omega))
  have hx : (⟨#[120]⟩ : ByteArray).size = 1 := rfl
  unfold opT
  split
  · split
    · refine ⟨k3.1, k3.2.1.trans (k2.2.1.trans k1.2.1), ⟨?_, ?_, ?_, ?_⟩, h1, h2, h3⟩
      · have h4 : 0 ≤ (nF l (nF l (oneF l S 25).1 3).1 7).2 := k3.2.2.1
        have h5 : (nF l (nF l (oneF l S 25).1 3).1 7).2 < 7 ∨ (nF l (nF l (oneF l S 25).1 3).1 7).2 = 0 := k3.2.2.2
        unfold inI; simp only; omega
      all_goals (simp only; omega)
    · split
      · exact ⟨k2.1, k2.2.1.trans k1.2.1, ⟨hk, by simp only; omega, by rw [hx]; decide, by simp only; omega⟩, h1, by rw [hx]; decide, h3⟩
      · exact ⟨k2.1, k2.2.1.trans k1.2.1, ⟨hk, by simp only; omega, by simp only; omega, by rw [hx]; decide⟩, h1, h2, by rw [hx]; decide⟩
  · exact ⟨k1.1, k1.2.1, ⟨hk, by simp only; omega, by simp only; omega, by simp only; omega⟩, h1, h2, h3⟩
theorem opF_ok {l : List UInt8} {S : Src} (hS : S.ok l) : (opF l S).1.ok l ∧ (opF l S).1.size = S.size ∧ smallOp (opF l S).2 := by
  have h4 := nF_ok hS (inI_n (k := 4) (by omega))
  have hnm := nameF_ok h4.1
  have hk : inI (1 + (nF l S 4).2) := by unfold inI; omega
  have h0 : (⟨#[]⟩ : ByteArray).size = 0 := rfl
  unfold opF
  split
  · have h12 := nF_ok hnm.1 (inI_n (k := 12) (by omega))
    have hby := bytesF_ok (l := l) (nF l (nameF l (nF l S 4).1).1 12).2.toNat (acc := []) h12.1
    have := opT_ok hk (name := (nameF l (nF l S 4).1).2) (to := ⟨#[]⟩) (text := ⟨(bytesF l (nF l (nameF l (nF l S 4).1).1 12).2.toNat (nF l (nameF l (nF l S 4).1).1 12).1 []).2.toArray⟩) hnm.2.2 (by rw [h0]; decide)
      (by show (bytesF l _ _ []).2.toArray.size ≤ 12; rw [List.size_toArray, hby.2.2]; simp; omega) hby.1
    exact ⟨this.1, this.2.1.trans (hby.2.1.trans (h12.2.1.trans (hnm.2.1.trans h4.2.1))), this.2.2⟩
  · split
    · have hn2 := nameF_ok hnm.1
      have := opT_ok hk (name := (nameF l (nF l S 4).1).2) (to := (nameF l (nameF l (nF l S 4).1).1).2) (text := ⟨#[]⟩) hnm.2.2 hn2.2.2 (by rw [h0]; decide) hn2.1
      exact ⟨this.1, this.2.1.trans (hn2.2.1.trans (hnm.2.1.trans h4.2.1)), this.2.2⟩
    · have := opT_ok hk (name := (nameF l (nF l S 4).1).2) (to := ⟨#[]⟩) (text := ⟨#[]⟩) hnm.2.2 (by rw [h0]; decide) (by rw [h0]; decide) hnm.1
      exact ⟨this.1, this.2.1.trans (hnm.2.1.trans h4.2.1), this.2.2⟩
/-- The source of draws, from bytes. -/
def mixL : List UInt8 → Int → Int
  | [], m => m
  | u :: l, m => mixL l (IntKind.u64.wrap (bits .xor .u64 m (IntKind.u64.wrap u.toNat) * 1099511628211))
theorem mixL_snoc (u : UInt8) : ∀ (l : List UInt8) (m : Int), mixL (l ++ [u]) m = IntKind.u64.wrap (bits .xor .u64 (mixL l m) (IntKind.u64.wrap u.toNat) * 1099511628211)
  | [], m => rfl
  | v :: l, m => mixL_snoc u l _
def sizeF (l : List UInt8) : Int := if 12 < (l.length : Int).tdiv 20 then 12 else (l.length : Int).tdiv 20
def sourceF (l : List UInt8) : Src := ⟨0, mixL (l.take 64) 88172645463325252, sizeF l⟩
theorem sourceF_ok (l : List UInt8) : (sourceF l).ok l := by
  refine ⟨Nat.zero_le _, ?_, ?_⟩ <;> unfold sourceF sizeF <;> simp only
  · have := Int.tdiv_nonneg (a := (l.length : Int)) (b := 20) (by omega) (by omega)
    split <;> omega
  · split <;> omega
theorem source_c (B : Byt) (hB : B.l.length ≤ 4294967296) : NewF Try.prog 112 B.pars [.slice B.A B.l.length B.cap] ((sourceF B.l).cells B) := by
  refine newf_of_vc (E := tb) tb_ok mix (fn := Try.f112) Try.func112 rfl (by kernel_rfl) (by kernel_rfl) (by simp [Try.f112]) rfl rfl rfl rfl ?_
  (conv => whnf)
  refine ⟨LG (fun i : Nat => i ≤ B.l.length ∧ i ≤ 64) (fun i => 64 - i)
      (fun i => AS.of [(0, .one (.lit (.slice B.A B.l.length B.cap))), (2, .one (.lit (.pointer none))), (3, .one (.ptr 112 0)), (4, .one (.lit (.int .i64 (i : Nat))))]
        [(0, .par (.slice B.A B.l.length B.cap) (.row true 1 (B.l.map byteE))), (112, .var [.lit (.slice B.A B.l.length B.cap), .lit (.int .i64 0), .lit (.int .u64 (mixL (B.l.take i) 88172645463325252)), .lit (.int .i64 0)])]),
    lg_init 0 ⟨Nat.zero_le _, Nat.zero_le _⟩ (weak_of (by repeat (first | refine all_cons (by first | rfl | exact eq_int rfl (by first | rfl | omega | (simp; done) | (simp; omega)) | exact eq_loc rfl (by first | rfl | omega | (simp; done) | (simp; omega)) | exact eq_bool rfl (by simp_all)) ?_ | exact all_nil)) (by repeat (first | refine all_cons (by first | rfl | exact eq_int rfl (by first | rfl | omega | (simp; done) | (simp; omega)) | exact eq_loc rfl (by first | rfl | omega | (simp; done) | (simp; omega)) | exact eq_bool rfl (by simp_all)) ?_ | exact all_nil)) rfl rfl), ?_⟩
  rintro σ m0 ⟨i, ⟨hi, hi2⟩, hm0, rfl⟩
  simp only at hm0 ⊢
  refine ⟨_, Weak.refl _, ?_⟩
  (conv => whnf)
  have hd1 : 0 ≤ (B.l.length : Int).tdiv 20 := Int.tdiv_nonneg (by omega) (by omega)
  have hd2 : (B.l.length : Int).tdiv 20 ≤ B.l.length := Int.tdiv_le_self _ (by omega)
  have fin (he : i = 64 ∨ i = B.l.length) : mixL (B.l.take i) 88172645463325252 = (sourceF B.l).mix := by
    have : B.l.take i = B.l.take 64 := by
      rcases he with rfl | rfl
      · rfl
      · rw [List.take_length, List.take_of_length_le hi2]
    rw [this]; rfl
  (split <;> rename_i h <;> (try simp only [decide_eq_true_eq, decide_eq_false_iff_not, Bool.not_eq_true', Bool.not_eq_false', Bool.not_eq_true, Bool.not_eq_false, List.length_map] at h) <;> conv => whnf)
  · have hlt : i < B.l.length := by omega
    (split <;> rename_i h2 <;> (try simp only [decide_eq_true_eq, decide_eq_false_iff_not, Bool.not_eq_true', Bool.not_eq_false', Bool.not_eq_true, Bool.not_eq_false, List.length_map] at h2) <;> conv => whnf)
    · refine ⟨0, true, B.l.map byteE, rfl, i, rfl, _, at_map hlt, ?_⟩; (conv => whnf)
      refine ⟨_, rfl, ?_⟩; (conv => whnf)
      refine ⟨_, rfl, ?_⟩; (conv => whnf)
      (refine ⟨((i + 1 : Nat) : Int), by rw [← wrap64_id] <;> omega, ?_⟩; conv => whnf)
      have hm : mixL (B.l.take (i + 1)) 88172645463325252 = IntKind.u64.wrap (bits .xor .u64 (mixL (B.l.take i) 88172645463325252) (IntKind.u64.wrap B.l[i].toNat) * 1099511628211) := by
        rw [List.take_succ_eq_append_getElem hlt, mixL_snoc]
      exact lg_back (i + 1) ⟨by omega, by omega⟩ (by (try dsimp only); omega) (weak_of (by repeat (first | refine all_cons (by first | rfl | exact eq_int rfl (by first | rfl | omega | (simp; done) | (simp; omega)) | exact eq_loc rfl (by first | rfl | omega | (simp; done) | (simp; omega)) | exact eq_bool rfl (by simp_all)) ?_ | exact all_nil)) (all_cons rfl (all_cons (eq_var rfl (by rw [hm]; rfl)) all_nil)) rfl rfl)
    · refine ⟨by decide, (B.l.length : Int).tdiv 20, by rw [← wrap64_id] <;> omega, ?_⟩; (conv => whnf)
      (split <;> rename_i h5 <;> (try simp only [decide_eq_true_eq, decide_eq_false_iff_not, Bool.not_eq_true', Bool.not_eq_false', Bool.not_eq_true, Bool.not_eq_false, List.length_map] at h5) <;> conv => whnf)
      · exact ⟨112, rfl, eq_var rfl (by simp only [Src.cells, sourceF, List.map_cons, List.map_nil, sizeF, if_pos h5]; rw [fin (.inl (by omega))]; rfl)⟩
      · exact ⟨112, rfl, eq_var rfl (by simp only [Src.cells, sourceF, List.map_cons, List.map_nil, sizeF, if_neg h5]; rw [fin (.inl (by omega))]; rfl)⟩
  · refine ⟨by decide, (B.l.length : Int).tdiv 20, by rw [← wrap64_id] <;> omega, ?_⟩; (conv => whnf)
    (split <;> rename_i h5 <;> (try simp only [decide_eq_true_eq, decide_eq_false_iff_not, Bool.not_eq_true', Bool.not_eq_false', Bool.not_eq_true, Bool.not_eq_false, List.length_map] at h5) <;> conv => whnf)
    · exact ⟨112, rfl, eq_var rfl (by simp only [Src.cells, sourceF, List.map_cons, List.map_nil, sizeF, if_pos h5]; rw [fin (.inr (by omega))]; rfl)⟩
    · exact ⟨112, rfl, eq_var rfl (by simp only [Src.cells, sourceF, List.map_cons, List.map_nil, sizeF, if_neg h5]; rw [fin (.inr (by omega))]; rfl)⟩
end Go.Proofs.Ytlijeincckbdaaa
