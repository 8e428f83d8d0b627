/- The abstract machine: slices.Insert and slices.Delete: what they do in memory; and the caller's step. -/
import Derived.Test.YtlijeincckbdaaaB5
namespace Go.Proofs.Ytlijeincckbdaaa
open Go.RowKit
set_option linter.unusedSimpArgs false
set_option linter.unusedVariables false
set_option maxHeartbeats 2000000

section
variable {P : Program} {w0 w : World} {L : Nat → Prop} {n : Nat} {σ : AS} {a : Act} {c : Ctx} {F : Nat → Nat → Prop}

theorem run_copy_place {t ty e : TypeId} {i : TypeInfo} (ht : P.underlying t = some (.slice e)) (hi : P.info? e = some i)
    {g o dLen dCap : Nat} {cur : Array Value} {el : TypeId} {fz : Nat × Nat} (hg : w.heap[g]? = some (.cells cur el fz)) {sz : Nat} (hfz : Unfz sz cur fz)
    {a : Addr} {m c : Nat} {news : List Value} (hl : news.length = Nat.min m dLen * i.size) (hnews : ∀ j v, news[j]? = some v → w.cell? (a.add j) = some v) (h1 : ∀ u ∈ news, u.oneCell' = true)
    (hfit : o + news.length ≤ cur.size) :
    (Builtin.copy_ #[t, t] ty #[.slice (some ⟨g, o, none⟩) dLen dCap, .slice (some a) m c]).run P w =
      .ok (goInt (Nat.min m dLen)) (w.setRow g (cur.toList.take o ++ news ++ cur.toList.drop (o + news.length)).toArray) := by
  have hf := run_firstCells_some (P := P) w i.size (Nat.min m dLen) a m c news hl hnews
  have hst := run_storeCells_unfz P g o el fz news 0 cur w hg hfz (by simpa using hfit) h1
  simp only [Nat.add_zero] at hst
  simp only [Builtin.copy_, List.getElem?_toArray, List.getElem?_cons_zero, List.getElem?_cons_succ, run_underlying ht, sizeOf, typeInfo, hi, Builtin.lenOf, Sem.run_bind, Sem.run_pure, Result.andThen_ok, hf, hst, run_program]

/-- append(s, make([]T, q)...), where there is no room. -/
theorem run_append_grow_zeros (w : World) (t tn ty e : TypeId) (i : TypeInfo) (z : Value) (kn : IntKind) (ht : P.underlying t = some (.slice e)) (htn : P.underlying tn = some (.int kn)) (hi : P.info? e = some i) (hz : i.zero = some z)
    (b : Addr) (sLen sCap : Nat) (olds : List Value) (hlo : olds.length = sLen * i.size) (holds : ∀ j v, olds[j]? = some v → w.cell? (b.add j) = some v)
    (q : Nat) (qi : Int) (hqi : qi = (q : Nat)) (hq0 : 0 < q) (hs0 : 0 < i.size) (hg : sCap < sLen + q) (h63 : ((sLen + q : Nat) : Int) ≤ 9223372036854775807) (h48 : q * i.bytes ≤ 281474976710656) (hfit : Builtin.nextslicecap (sLen + q) sCap * i.bytes ≤ 281474976710656) :
    (Builtin.append_ #[t, tn] ty #[.slice (some b) sLen sCap, .int .i64 qi]).run P w =
      .ok (.slice (some ⟨w.heap.size, 0, none⟩) (sLen + q) (grownCap w (sLen + q) sCap e))
        (w.drew.alloc (.cells (olds.toArray ++ Builtin.zeroCells z.cells q ++ Builtin.zeroCells z.cells (grownCap w (sLen + q) sCap e - (sLen + q))) e)) := by
  subst hqi
  have hn : ¬ (sLen + q ≤ sCap) := by omega
  have hw : IntKind.i64.wrap (q : Int) = q := by rw [IntKind.wrap_i64]; omega
  have h63' : ¬ (9223372036854775807 < ((sLen : Int) + (q : Int))) := by omega
  have h48' : ¬ (281474976710656 < Builtin.nextslicecap (sLen + q) sCap * i.bytes) := by omega
  have h48i : ¬ (281474976710656 < (q : Int) * (i.bytes : Int)) := by
    rw [← Int.natCast_mul]
    omega
  have hneg : ¬ ((q : Int) < 0) := by omega
  have hns : ¬ (q * i.size = 0) := Nat.mul_ne_zero (by omega) (by omega)
  have hns1 : ¬ (q = 0) := by omega
  have hns2 : ¬ (i.size = 0) := by omega
  have hfo := run_firstCells_some (P := P) w.drew i.size sLen b sLen sCap olds hlo (by simpa using holds)
  simp [Builtin.append_, run_underlying ht, run_underlying htn, sizeOf, typeInfo, zeroValue, hi, hz, asInt, asIntOf, hw, hn, hneg, hns, hns1, hns2, h63', h48', h48i, Question.forced, hfo, newRow, grownCap]

theorem wp_copy_at (w : World) {o : Oper} {a : Act} {K : Act → World → Prop} {Q : Exit → Act → World → Prop} (d s : Operand) (t t' : TypeId)
    (ho : o.op = .call { callee := .builtin .copy, args := #[d, s], argTypes := #[t, t'] }) (v u : Value) (hd : a.eval d = v) (hs : a.eval s = u) {v' : Value} {w' : World}
    (hr : (Builtin.copy_ #[t, t'] o.type #[v, u]).run P w = .ok v' w') (h : K (a.put o.dst v') w') : o.wp P a w K Q := by
  unfold Oper.wp execOp
  simp only [ho, resolve, invoke, builtin, Sem.run_bind, Sem.run_pure, Result.andThen_ok, List.map_toArray, List.map_cons, List.map_nil, hd, hs, hr]
  exact h
/-- One copy of a walk, its run known. -/
theorem wpList_copy_at (w : World) {ops : Array Oper} {rest : List Oper} {o : Oper} {a : Act} {Q : Exit → Act → World → Prop} (hgd : o.guard = none) (d s : Operand) (t t' : TypeId)
    (ho : o.op = .call { callee := .builtin .copy, args := #[d, s], argTypes := #[t, t'] }) (v u : Value) (hd : a.eval d = v) (hs : a.eval s = u) {v' : Value} {w' : World}
    (hr : (Builtin.copy_ #[t, t'] o.type #[v, u]).run P w = .ok v' w') (h : wpList P ops Q rest (a.put o.dst v') w') : wpList P ops Q (o :: rest) a w :=
  wpList_plain hgd fun _ hK => wp_copy_at w d s t t' ho v u hd hs hr (hK _ _ h)
/-- .. and in a region that draws. -/
theorem step_copy_at {ops : Array Oper} {o : Oper} {a : Act} {w : World} {K : Act → World → Prop} {Q : Exit → Act → World → Prop} {E : Prop}
    (hg : o.guard = none) (d x : Operand) (dT sT : TypeId) (hop : o.op = Op.call { callee := Callee.builtin Builtin.copy, args := #[d, x], argTypes := #[dT, sT] })
    (v u : Value) (hd : a.eval d = v) (hx : a.eval x = u) {v' : Value} {w' : World} (hr : (Builtin.copy_ #[dT, sT] o.type #[v, u]).run P w = .ok v' w') (hK : K (a.put o.dst v') w') :
    if Region.wanted o (yielded ops a.tmps) = true then Oper.wp P o a w K Q else E := by
  rw [if_pos (by simp [Region.wanted, hg])]
  exact wp_copy_at w d x dT sT hop v u hd hx hr hK

theorem step_app_at {ops : Array Oper} {o : Oper} {a : Act} {w : World} {K : Act → World → Prop} {Q : Exit → Act → World → Prop} {E : Prop}
    (hg : o.guard = none) (d x : Operand) (dT sT : TypeId) (hop : o.op = Op.call { callee := Callee.builtin Builtin.append, args := #[d, x], argTypes := #[dT, sT] })
    (v u : Value) (hd : a.eval d = v) (hx : a.eval x = u) {v' : Value} {w' : World} (hr : (Builtin.append_ #[dT, sT] o.type #[v, u]).run P w = .ok v' w') (hK : K (a.put o.dst v') w') :
    if Region.wanted o (yielded ops a.tmps) = true then Oper.wp P o a w K Q else E := by
  rw [if_pos (by simp [Region.wanted, hg])]
  unfold Oper.wp execOp
  simp only [hop, resolve, invoke, builtin, Sem.run_bind, Sem.run_pure, Result.andThen_ok, List.map_toArray, List.map_cons, List.map_nil, hd, hx, hr]
  exact hK
theorem wpList_clear_at (w : World) {ops : Array Oper} {rest : List Oper} {o : Oper} {a : Act} {Q : Exit → Act → World → Prop} (hgd : o.guard = none) (d : Operand) (t : TypeId)
    (ho : o.op = .call { callee := .builtin .clear, args := #[d], argTypes := #[t] }) (v : Value) (hd : a.eval d = v) {v' : Value} {w' : World}
    (hr : (Builtin.clear_ #[t] o.type #[v]).run P w = .ok v' w') (h : wpList P ops Q rest (a.put o.dst v') w') : wpList P ops Q (o :: rest) a w :=
  wpList_plain hgd fun K hK => by
    unfold Oper.wp execOp
    simp only [ho, resolve, invoke, builtin, Sem.run_bind, Sem.run_pure, Result.andThen_ok, List.map_toArray, List.map_cons, List.map_nil, hd, hr]
    exact hK _ _ h

theorem zeroCells_one {z : Array Value} {q : Nat} (h : ∀ v ∈ z.toList, v.oneCell' = true) : ∀ v ∈ (Builtin.zeroCells z q).toList, v.oneCell' = true := by
  intro v hv
  simp only [Builtin.zeroCells, Array.toList_map, List.mem_map] at hv
  obtain ⟨k, hk, rfl⟩ := hv
  have hk' : k < q * z.size := by simpa using hk
  have hz : 0 < z.size := by rcases Nat.eq_zero_or_pos z.size with e | e; simp [e] at hk'; exact e
  have hm : k % z.size < z.size := Nat.mod_lt _ hz
  rw [getElem!_pos z _ hm]
  exact h _ (by simp)

theorem run_clear_place {t ty e : TypeId} {i : TypeInfo} {z : Value} (ht : P.underlying t = some (.slice e)) (hi : P.info? e = some i) (hz : i.zero = some z)
    {g o m cap : Nat} {cur : Array Value} {el : TypeId} {fz : Nat × Nat} (hg : w.heap[g]? = some (.cells cur el fz)) {sz : Nat} (hfz : Unfz sz cur fz) (hm : 0 < m) (h1 : ∀ v ∈ z.cells.toList, v.oneCell' = true) (hfit : o + m * z.cells.size ≤ cur.size) :
    (Builtin.clear_ #[t] ty #[.slice (some ⟨g, o, none⟩) m cap]).run P w =
      .ok (.tuple #[]) (w.setRow g (cur.toList.take o ++ (Builtin.zeroCells z.cells m).toList ++ cur.toList.drop (o + m * z.cells.size)).toArray) := by
  have hl : (Builtin.zeroCells z.cells m).toList.length = m * z.cells.size := by rw [Array.length_toList, size_zeroCells]
  have hst := run_storeCells_unfz P g o el fz (Builtin.zeroCells z.cells m).toList 0 cur w hg hfz (by rw [hl]; simpa using hfit) (zeroCells_one h1)
  simp only [Nat.add_zero, hl] at hst
  obtain ⟨q, rfl⟩ : ∃ q, m = q + 1 := ⟨m - 1, by omega⟩
  simp [Builtin.clear_, run_underlying ht, zeroValue, typeInfo, hi, hz, hst]

/-- slices.Insert, in memory: how it ends. -/
def InsQ (w : World) (sz b : Nat) (C : Array Value) (m k i : Nat) (news : List Value) (e : Ending) (w' : World) : Prop :=
  ∃ A' b' cap' C' e' fz', e = .returned (.slice A' (m + k) cap') ∧ Keeps (fun q => q = b) w w' ∧ w'.heap[b']? = some (.cells C' e' fz') ∧ Unfz sz C' fz' ∧
      (b' = b ∨ w.heap.size ≤ b') ∧ m + k ≤ cap' ∧ cap' ≤ maxLen ∧ C'.size = cap' * sz ∧ (0 < cap' → A' = some ⟨b', 0, none⟩) ∧ C'.toList.take ((m + k) * sz) = C.toList.take (i * sz) ++ news ++ (C.toList.drop (i * sz)).take ((m - i) * sz)
/-- slices.Insert, in memory. -/
def InsH (P : Program) (f : FuncId) (sz by_ : Nat) : Prop := Callable P f ∧
  ∀ (w : World) (X : Value) (b : Nat) (C : Array Value) (m cap i : Nat) (D : Array Value) (vb k vc : Nat) (eD : TypeId) (fzD : Nat × Nat) (news : List Value),
    RowH w sz X b C m cap → i ≤ m → 0 < k → w.heap[vb]? = some (.cells D eD fzD) → Unfz sz D fzD → k * sz ≤ D.size → news = D.toList.take (k * sz) → (∀ v ∈ news, v.oneCell' = true) →
    (∀ v ∈ C.toList.take (m * sz), v.oneCell' = true) → vb ≠ b → m + k ≤ maxLen → (m + k) * by_ ≤ 140737488355328 →
    Calls P f #[X, .int .i64 i, .slice (some ⟨vb, 0, none⟩) k vc] w (InsQ w sz b C m k i news)
/-- slices.Delete of one element, in memory. -/
def DelH (P : Program) (f : FuncId) (sz : Nat) : Prop := Callable P f ∧
  ∀ (w : World) (X : Value) (b : Nat) (C : Array Value) (m cap i : Nat), RowH w sz X b C m cap → i < m → (∀ v ∈ C.toList.take (m * sz), v.oneCell' = true) →
    Calls P f #[X, .int .i64 i, .int .i64 ((i : Int) + 1)] w fun e w' => ∃ A' C' e' fz', e = .returned (.slice A' (m - 1) cap) ∧ Keeps (fun q => q = b) w w' ∧ w'.heap[b]? = some (.cells C' e' fz') ∧ Unfz sz C' fz' ∧
      C'.size = cap * sz ∧ A' = some ⟨b, 0, none⟩ ∧ C'.toList.take ((m - 1) * sz) = C.toList.take (i * sz) ++ (C.toList.drop ((i + 1) * sz)).take ((m - 1 - i) * sz)

theorem take_get {C : Array Value} {l : List Value} {n k : Nat} (h : C.toList.take n = l) (hk : k < n) : C[k]? = l[k]? := by
  rw [← h, List.getElem?_take, if_pos hk]; simp

theorem elt_get {es : List (List AV)} {i j : Nat} {x : AV} (h : elt es i j = some x) : i < es.length := by
  unfold elt at h
  rcases Nat.lt_or_ge i es.length with e | e
  · exact e
  · simp [List.getElem?_eq_none e] at h

theorem mul_lt {i j m sz : Nat} (hi : i < m) (hj : j < sz) : i * sz + j < m * sz := fit_lt hi hj (Nat.le_refl _)

theorem ones_row {sz : Nat} {C : Array Value} {es : List (List AV)} {m : Nat} (hm : es.length = m) (hl : ∀ e ∈ es, e.length = sz) (hc : ∀ i j x, elt es i j = some x → ∃ v, C[i * sz + j]? = some v ∧ v.oneCell' = true) : ∀ v ∈ C.toList.take (m * sz), v.oneCell' = true := by
  intro v hv
  obtain ⟨k, hk, rfl⟩ := List.mem_iff_getElem.1 hv
  have hk' : k < m * sz := by simp at hk; omega
  have hsz : 0 < sz := by rcases Nat.eq_zero_or_pos sz with e | e; simp [e] at hk'; exact e
  have hi : k / sz < es.length := by rw [hm]; exact (Nat.div_lt_iff_lt_mul hsz).2 hk'
  have hj : k % sz < (es[k / sz]).length := by rw [hl _ (List.getElem_mem hi)]; exact Nat.mod_lt _ hsz
  obtain ⟨v, h1, h2⟩ := hc (k / sz) (k % sz) (es[k / sz][k % sz]) (by simp [elt, hi, hj])
  have hdm : k / sz * sz + k % sz = k := by have := Nat.div_add_mod k sz; rw [Nat.mul_comm] at this; exact this
  rw [hdm] at h1
  have : (C.toList.take (m * sz))[k] = v := by
    rw [List.getElem_take]
    have := (Array.getElem?_eq_some_iff.1 h1).2
    simpa using this
  rw [this]; exact h2

/-- The elements of a row that is owned. -/
theorem H.ownRow (h : H w0 L n σ a w c F) {s sz : Nat} {es : List (List AV)} (hs : σ.mem s = some (.row true sz es)) (h0 : 0 < es.length) {X : Value} (hX : R c w (.loc s 0 es.length) X) :
    ∃ b D e fz vc, X = .slice (some ⟨b, 0, none⟩) es.length vc ∧ w.heap[b]? = some (.cells D e fz) ∧ Unfz sz D fz ∧ es.length * sz ≤ D.size ∧ c.top s b ∧ (∀ e ∈ es, e.length = sz) ∧
      ∀ i j x, elt es i j = some x → ∃ v, D[i * sz + j]? = some v ∧ v.oneCell' = true ∧ R c w x v := by
  rcases h.mem s _ hs with ⟨_, rfl, _⟩ | ⟨b, cap, hat, hB⟩
  · simp at h0
  · have hB0 := hB
    obtain ⟨C, el, fz, G, a1, a2, a3, a4, a5, a6, a7, a8, a9, a10, a11, a12⟩ := hB
    generalize hq : es.length = q at hX
    cases hX with
    | locnil h1 => rw [hat] at h1; cases h1
    | @loc _ _ _ b' cap' sz' A h1 hle hA =>
      rw [hat] at h1; cases h1
      have := hA (by omega)
      simp only [Nat.zero_mul] at this
      subst this
      rw [← hq]
      refine ⟨b, C, el, fz, _, rfl, a1, a2, ?_, .inr ⟨_, _, hat⟩, a6, fun i j x hx => ?_⟩
      · rw [a5]; exact Nat.mul_le_mul_right _ a3
      · obtain ⟨hi, hj⟩ := elt_lt a6 hx
        have hlt := fit_lt hi hj a3
        have hv : C[i * sz + j]? = some (C[i * sz + j]'(by omega)) := by simp
        refine ⟨_, hv, a7 i j x _ hx hv, ((a8 i j x _ hx hv).resolve_right (by simp)).read fun k hk => ?_⟩
        have hFk : F s k := (a12 k).2 (.inr ⟨i, j, hk⟩)
        refine (h.inn s k hFk).2 ?_
        rintro (ht | ⟨_, _, ht⟩)
        · rw [hat] at ht; cases ht
        · rw [hat] at ht; cases ht; exact a9 i j hk
end
end Go.Proofs.Ytlijeincckbdaaa
