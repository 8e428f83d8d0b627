/- The abstract machine: slices.Insert and slices.Delete as steps of the caller's state. -/
import Derived.Test.YtlijeincckbdaaaB6
namespace Go.Proofs.Ytlijeincckbdaaa
open Go.RowKit
set_option linter.unusedSimpArgs false
set_option linter.unusedVariables false
set_option maxHeartbeats 2000000

section
variable {P : Program} {w0 w : World} {L : Nat → Prop} {n : Nat} {σ : AS} {a : Act} {c : Ctx} {F : Nat → Nat → Prop}

theorem elt_app {A B : List (List AV)} {i j : Nat} {x : AV} (h : elt (A ++ B) i j = some x) : (i < A.length ∧ elt A i j = some x) ∨ (A.length ≤ i ∧ elt B (i - A.length) j = some x) := elt_append h
theorem elt_take {A : List (List AV)} {q i j : Nat} {x : AV} (h : elt (A.take q) i j = some x) : i < q ∧ elt A i j = some x := by
  unfold elt at h ⊢
  rw [List.getElem?_take] at h
  split at h
  · exact ⟨by assumption, h⟩
  · simp at h
theorem elt_drop {A : List (List AV)} {q i j : Nat} {x : AV} (h : elt (A.drop q) i j = some x) : elt A (q + i) j = some x := by
  unfold elt at h ⊢
  rw [List.getElem?_drop] at h
  exact h

/-- slices.Insert(s, i, v...): s's row is handed back with v's elements among its own. -/
theorem ins_ok {f : FuncId} {sz by_ s s2 i : Nat} {es vs : List (List AV)} {x y z : Operand} (hf : InsH P f sz by_) (hx : σ.get x = .one (.loc s 0 es.length)) (hs : σ.mem s = some (.row true sz es)) (hy : σ.get y = .one (.lit (.int .i64 i))) (hi : i ≤ es.length)
    (hz : σ.get z = .one (.loc s2 0 vs.length)) (hs2 : σ.mem s2 = some (.row true sz vs)) (h0 : 0 < vs.length) (hne : s2 ≠ s) (hcv : cellRow vs = true) (hmx : es.length + vs.length ≤ maxLen) (hby : (es.length + vs.length) * by_ ≤ 140737488355328) :
    CallOk P f [x, y, z] σ ((σ.drop s).add s (.row true sz (es.take i ++ (vs.map fun e => e.map AV.bor) ++ es.drop i))) (.one (.loc s 0 (es.length + vs.length))) := by
  refine ⟨hf.1, fun w0 L n a w ⟨c, F, h⟩ => ?_⟩
  have gx := h.get x
  have gy := h.get y
  have gz := h.get z
  rw [hx] at gx; rw [hy] at gy; rw [hz] at gz
  obtain ⟨b, C, cap, hR, htop, hcell, hre⟩ := h.reRow hs gx.1
  obtain ⟨vb, D, eD, fzD, vc, hZ, hD, hfD, hkD, htop2, hlv, hcv2⟩ := h.ownRow hs2 h0 gz.1
  have hvb : vb ≠ b := by
    rcases htop2 with ht | ⟨cap2, sz2, ht⟩
    · rcases h.mem s2 _ hs2 with ⟨hat, _⟩ | ⟨b2, cap2, hat, _⟩
      · rw [hat] at ht; cases ht
      · rw [hat] at ht; cases ht
    · exact htop s2 vb cap2 sz2 hne ht
  have hle : ∀ e ∈ es, e.length = sz := by
    rcases h.mem s _ hs with ⟨_, rfl, _⟩ | ⟨_, _, _, C', e, fz, G, a1, a2, a3, a4, a5, a6, _⟩
    · simp
    · exact a6
  have hgy := one_lit gy
  show Calls P f [a.eval x, a.eval y, a.eval z].toArray w _
  rw [hZ, hgy]
  have hCs : es.length * sz ≤ C.size := by
    rcases hR with ⟨_, hm, _, _, _⟩ | ⟨_, _, _, _, _, _, _, hm, _, hsz⟩
    · rw [hm]; simp
    · rw [hsz]; exact Nat.mul_le_mul_right _ hm
  have hones := ones_row (C := C) (m := es.length) rfl hle fun p j x hx => by
    obtain ⟨hp, hj⟩ := elt_lt hle hx
    have := mul_lt (sz := sz) hp hj
    exact hcell (p * sz + j) (by omega) p j rfl x hx
  have hnl : (D.toList.take (vs.length * sz)).length = vs.length * sz := by simp; omega
  refine (hf.2 w (a.eval x) b C es.length cap i D vb vs.length vc eD fzD _ hR hi h0 hD hfD hkD rfl (ones_row rfl hlv fun i j x hx => by obtain ⟨v, h1, h2, _⟩ := hcv2 i j x hx; exact ⟨v, h1, h2⟩) hones hvb hmx hby).mono ?_
  rintro e w' ⟨A', b', cap', C', e', fz', rfl, hK, hC', hfz', hb', hfit, hm', hs', hA', ht⟩
  have hlen : (es.take i ++ (vs.map fun e => e.map AV.bor) ++ es.drop i).length = es.length + vs.length := by simp; omega
  have hti : (C.toList.take (i * sz)).length = i * sz := by
    have := Nat.mul_le_mul_right sz hi
    simp; omega
  have get1 : ∀ q, q < i * sz → C'[q]? = C[q]? := fun q hq => by
    have := Nat.mul_le_mul_right sz (show i ≤ es.length + vs.length by omega)
    rw [take_get ht (by omega), List.append_assoc, List.getElem?_append_left (by omega), List.getElem?_take, if_pos hq]; simp
  have get2 : ∀ q, q < vs.length * sz → C'[i * sz + q]? = D[q]? := fun q hq => by
    have h3 : i * sz + vs.length * sz ≤ (es.length + vs.length) * sz := by rw [← Nat.add_mul]; exact Nat.mul_le_mul_right _ (by omega)
    rw [take_get ht (by omega), List.append_assoc, List.getElem?_append_right (by omega), hti, Nat.add_sub_cancel_left, List.getElem?_append_left (by omega), List.getElem?_take, if_pos hq]; simp
  have get3 : ∀ q, q < (es.length - i) * sz → C'[(i + vs.length) * sz + q]? = C[i * sz + q]? := fun q hq => by
    have h3 : (i + vs.length) * sz + (es.length - i) * sz = (es.length + vs.length) * sz := by rw [← Nat.add_mul]; congr 1; omega
    have h4 : (i + vs.length) * sz = i * sz + vs.length * sz := Nat.add_mul _ _ _
    rw [take_get ht (by omega), List.getElem?_append_right (by simp only [List.length_append, hti, hnl]; omega)]
    simp only [List.length_append, hti, hnl]
    rw [show (i + vs.length) * sz + q - (i * sz + vs.length * sz) = q by omega, List.getElem?_take, if_pos hq, List.getElem?_drop]; simp
  obtain ⟨c', F', h1, h2⟩ := hre w' A' b' cap' C' e' fz' (es.take i ++ (vs.map fun e => e.map AV.bor) ++ es.drop i) (fun q => if q < i then some q else if q < i + vs.length then none else some (q - vs.length)) hK hC' hfz' hb' (by omega) hm' hs' hA'
    (fun e he => by
      rcases List.mem_append.1 he with he | he
      · rcases List.mem_append.1 he with he | he
        · exact hle e (List.mem_of_mem_take he)
        · obtain ⟨e', h1, rfl⟩ := List.mem_map.1 he; simpa using hlv e' h1
      · exact hle e (List.mem_of_mem_drop he))
    (fun q q' p hq hq' => by
      try dsimp only at hq hq'
      split at hq <;> split at hq' <;> (try split at hq) <;> (try split at hq') <;> simp only [Option.some.injEq, reduceCtorEq] at hq hq' <;> omega)
    (fun q j x hx => by
      try dsimp only
      rcases elt_app hx with ⟨hq, hx⟩ | ⟨hq, hx⟩
      · rcases elt_app hx with ⟨hq2, hx⟩ | ⟨hq2, hx⟩
        · obtain ⟨hq3, hx⟩ := elt_take hx
          obtain ⟨_, hj⟩ := elt_lt hle hx
          exact .inl ⟨q, by rw [if_pos hq3], hx, get1 _ (mul_lt hq3 hj)⟩
        · obtain ⟨y, hy, rfl⟩ := elt_map hx
          simp only [List.length_take, Nat.min_eq_left hi] at hy hq2
          obtain ⟨hq4, hj⟩ := elt_lt hlv hy
          obtain ⟨v, h3, h4, h5⟩ := hcv2 _ _ _ hy
          refine .inr ⟨by rw [if_neg (by omega), if_pos (by omega)], v, ?_, h4, h5.bor, bor_data (cellRow_elt hcv hy)⟩
          rw [show q * sz + j = i * sz + ((q - i) * sz + j) by rw [← Nat.add_assoc, ← Nat.add_mul]; congr 2; omega, get2 _ (mul_lt hq4 hj)]
          exact h3
      · simp only [List.length_append, List.length_take, List.length_map, Nat.min_eq_left hi] at hq hx
        have hx := elt_drop hx
        obtain ⟨hp, hj⟩ := elt_lt hle hx
        refine .inl ⟨q - vs.length, by rw [if_neg (by omega), if_neg (by omega)], by rw [show q - vs.length = i + (q - (i + vs.length)) by omega]; exact hx, ?_⟩
        have h6 := get3 ((q - (i + vs.length)) * sz + j) (mul_lt (by omega) hj)
        rw [← Nat.add_assoc, ← Nat.add_mul, ← Nat.add_assoc, ← Nat.add_mul] at h6
        rw [show q - vs.length = i + (q - (i + vs.length)) by omega]
        rw [show i + vs.length + (q - (i + vs.length)) = q by omega] at h6
        exact h6)
  rw [hlen] at h2
  exact ⟨_, c', F', rfl, h1, h2⟩

/-- slices.Delete(s, i, i+1): s's row is handed back without its element i. -/
theorem del_ok {f : FuncId} {sz s i : Nat} {es : List (List AV)} {x y z : Operand} (hf : DelH P f sz) (hx : σ.get x = .one (.loc s 0 es.length)) (hs : σ.mem s = some (.row true sz es)) (hy : σ.get y = .one (.lit (.int .i64 i))) (hi : i < es.length)
    (hz : σ.get z = .one (.lit (.int .i64 ((i : Int) + 1)))) :
    CallOk P f [x, y, z] σ ((σ.drop s).add s (.row true sz (es.take i ++ es.drop (i + 1)))) (.one (.loc s 0 (es.length - 1))) := by
  refine ⟨hf.1, fun w0 L n a w ⟨c, F, h⟩ => ?_⟩
  have gx := h.get x
  have gy := h.get y
  have gz := h.get z
  rw [hx] at gx; rw [hy] at gy; rw [hz] at gz
  obtain ⟨b, C, cap, hR, htop, hcell, hre⟩ := h.reRow hs gx.1
  have hle : ∀ e ∈ es, e.length = sz := by
    rcases h.mem s _ hs with ⟨_, rfl, _⟩ | ⟨_, _, _, C', e, fz, G, a1, a2, a3, a4, a5, a6, _⟩
    · simp
    · exact a6
  have hgy := one_lit gy
  have hgz := one_lit gz
  show Calls P f [a.eval x, a.eval y, a.eval z].toArray w _
  rw [hgz, hgy]
  have hCs : es.length * sz ≤ C.size ∧ es.length ≤ cap ∧ cap ≤ maxLen := by
    rcases hR with ⟨_, hm, hc, _, _⟩ | ⟨_, _, _, _, _, _, _, hm, hcm, hsz⟩
    · rw [hm, hc]; simp
    · rw [hsz]; exact ⟨Nat.mul_le_mul_right _ hm, hm, hcm⟩
  have hones := ones_row (C := C) (m := es.length) rfl hle fun p j x hx => by
    obtain ⟨hp, hj⟩ := elt_lt hle hx
    have := mul_lt (sz := sz) hp hj
    exact hcell (p * sz + j) (by omega) p j rfl x hx
  refine (hf.2 w (a.eval x) b C es.length cap i hR hi hones).mono ?_
  rintro e w' ⟨A', C', e', fz', rfl, hK, hC', hfz', hs', hA', ht⟩
  have hlen : (es.take i ++ es.drop (i + 1)).length = es.length - 1 := by simp; omega
  have hti : (C.toList.take (i * sz)).length = i * sz := by
    have := Nat.mul_le_mul_right sz (Nat.le_of_lt hi)
    simp; omega
  have get1 : ∀ q, q < i * sz → C'[q]? = C[q]? := fun q hq => by
    have := Nat.mul_le_mul_right sz (show i ≤ es.length - 1 by omega)
    rw [take_get ht (by omega), List.getElem?_append_left (by omega), List.getElem?_take, if_pos hq]; simp
  have get3 : ∀ q, q < (es.length - 1 - i) * sz → C'[i * sz + q]? = C[(i + 1) * sz + q]? := fun q hq => by
    have h3 : i * sz + (es.length - 1 - i) * sz = (es.length - 1) * sz := by rw [← Nat.add_mul]; congr 1; omega
    rw [take_get ht (by omega), List.getElem?_append_right (by omega), hti, Nat.add_sub_cancel_left, List.getElem?_take, if_pos hq, List.getElem?_drop]; simp
  obtain ⟨c', F', h1, h2⟩ := hre w' A' b cap C' e' fz' (es.take i ++ es.drop (i + 1)) (fun q => if q < i then some q else some (q + 1)) hK hC' hfz' (.inl rfl) (by omega) hCs.2.2 hs' (fun _ => hA')
    (fun e he => by
      rcases List.mem_append.1 he with he | he
      · exact hle e (List.mem_of_mem_take he)
      · exact hle e (List.mem_of_mem_drop he))
    (fun q q' p hq hq' => by
      try dsimp only at hq hq'
      split at hq <;> split at hq' <;> simp only [Option.some.injEq, reduceCtorEq] at hq hq' <;> omega)
    (fun q j x hx => by
      try dsimp only
      rcases elt_app hx with ⟨hq, hx⟩ | ⟨hq, hx⟩
      · obtain ⟨hq3, hx⟩ := elt_take hx
        obtain ⟨_, hj⟩ := elt_lt hle hx
        exact .inl ⟨q, by rw [if_pos hq3], hx, get1 _ (mul_lt hq3 hj)⟩
      · simp only [List.length_take, Nat.min_eq_left (Nat.le_of_lt hi)] at hq hx
        have hx := elt_drop hx
        obtain ⟨hp, hj⟩ := elt_lt hle hx
        refine .inl ⟨q + 1, by rw [if_neg (by omega)], by rw [show q + 1 = i + 1 + (q - i) by omega]; exact hx, ?_⟩
        have h6 := get3 ((q - i) * sz + j) (mul_lt (by omega) hj)
        rw [← Nat.add_assoc, ← Nat.add_mul, ← Nat.add_assoc, ← Nat.add_mul] at h6
        rw [show q + 1 = i + 1 + (q - i) by omega]
        rw [show i + (q - i) = q by omega] at h6
        exact h6)
  rw [hlen] at h2
  exact ⟨_, c', F', rfl, h1, h2⟩
end
end Go.Proofs.Ytlijeincckbdaaa
