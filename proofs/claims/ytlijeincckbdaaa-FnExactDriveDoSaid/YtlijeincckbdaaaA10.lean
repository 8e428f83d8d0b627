/- The abstract machine: stores. -/
import Derived.Test.YtlijeincckbdaaaA9
namespace Go.Proofs.Ytlijeincckbdaaa
open Go.RowKit
set_option linter.unusedSimpArgs false
set_option linter.unusedVariables false

def AS.set (σ : AS) (s : Nat) (k : Blk) : AS := { σ with mem := fun s' => if s' = s then some k else σ.mem s' }

theorem run_storeCells_unfz (P : Program) (g o : Nat) (t : TypeId) (fz : Nat × Nat) {sz : Nat} : ∀ (vs : List Value) (i : Nat) (cur : Array Value) (w : World), w.heap[g]? = some (.cells cur t fz) → Unfz sz cur fz → o + i + vs.length ≤ cur.size → (∀ v ∈ vs, v.oneCell' = true) →
    (storeCells ⟨g, o, none⟩ vs i).run P w = .ok () (w.setRow g (cur.toList.take (o + i) ++ vs ++ cur.toList.drop (o + i + vs.length)).toArray)
  | [], i, cur, w, hg, _, _, _ => by
    simp only [storeCells, List.append_nil, List.length_nil, Nat.add_zero, List.take_append_drop, Array.toArray_toList]
    rw [setRow_self w g cur t fz hg]
    rfl
  | v :: rest, i, cur, w, hg, hfz, hl, h1 => by
    have hi : o + i < cur.size := by simp at hl; omega
    have hadd : (⟨g, o, none⟩ : Addr).add i = ⟨g, o + i, none⟩ := by unfold Addr.add; split <;> simp_all
    have hcell : w.cell? ⟨g, o + i, none⟩ = some cur[o + i] := by simp [World.cell?, hg, hi]
    have hfro : w.frozen? ⟨g, o + i, none⟩ = false := by
      have := hfz (o + i) (by omega)
      simp only [World.frozen?, hg]
      simpa using this
    have hst : (store ((⟨g, o, none⟩ : Addr).add i) v).run P w = .ok () (w.setRow g (cur.setIfInBounds (o + i) v)) := by
      rw [hadd, run_store P w _ v _ (h1 v (by simp)), hcell]
      simp [hfro, setCell_eq_setRow w g (o + i) cur t fz v hg]
    have ih := run_storeCells_unfz P g o t fz rest (i + 1) (cur.setIfInBounds (o + i) v) (w.setRow g (cur.setIfInBounds (o + i) v)) (setRow_heap w g cur _ t _ hg) (fun j hj => hfz j (by simpa using hj)) (by simp at hl ⊢; omega) (fun x hx => h1 x (by simp [hx]))
    simp only [storeCells, Sem.run_bind, hst, Result.andThen_ok, ih, setRow_setRow]
    congr 3
    have e := list_seg_step cur.toList (o + i) v rest (by simp at hl ⊢; omega)
    simpa [Array.toList_setIfInBounds, Nat.add_assoc] using e

section
variable {P : Program} {w0 w : World} {L : Nat → Prop} {n : Nat} {σ : AS} {a : Act} {c : Ctx} {F : Nat → Nat → Prop}

theorem BlkOk.top {F : Nat → Prop} {s : Nat} {k : Blk} (h : BlkOk c w F s k) {b : Nat} (ht : c.top s b) : F b := by
  cases k with
  | var xs =>
    obtain ⟨b', C, e, fz, a1, a2, a3, a4, a5⟩ := h
    rcases ht with ht | ⟨_, _, ht⟩ <;> rw [a1] at ht <;> cases ht
    exact (a5 b).2 rfl
  | row p sz es =>
    rcases h with ⟨a1, _⟩ | ⟨b', cap, a1, C, e, fz, G, _, _, _, _, _, _, _, _, _, _, _, a12⟩
    · rcases ht with ht | ⟨_, _, ht⟩ <;> rw [a1] at ht <;> cases ht
    · rcases ht with ht | ⟨_, _, ht⟩ <;> rw [a1] at ht <;> cases ht
      exact (a12 b).2 (.inl rfl)
  | par v x => rcases ht with ht | ⟨_, _, ht⟩ <;> rw [h.1] at ht <;> cases ht
  | pin s' i => rcases ht with ht | ⟨_, _, ht⟩ <;> rw [h.1] at ht <;> cases ht

theorem H.top_not_I (h : H w0 L n σ a w c F) {s : Nat} {b : Nat} (ht : c.top s b) : F s b ∧ ¬ c.I b := by
  cases hs : σ.mem s with
  | none =>
    have := (h.dom s hs).1
    rcases ht with ht | ⟨_, _, ht⟩ <;> rw [this] at ht <;> cases ht
  | some k =>
    have hF := (h.mem s k hs).top ht
    exact ⟨hF, fun hI => (h.inn s b hF).1 hI ht⟩

/-- The top block of one place is written. -/
theorem H.setBlk (h : H w0 L n σ a w c F) {w' : World} {s : Nat} {k k' : Blk} (hs : σ.mem s = some k) {G : Nat → Prop} (hsub : ∀ b, G b → F s b)
    (hw : ∀ b, ¬ c.top s b → w'.heap[b]? = w.heap[b]?) (hz : w'.heap.size = w.heap.size) (ho : w'.os = w.os) (ht : w'.tape = w.tape) (hp : w'.output = w.output)
    (hk : BlkOk c w' G s k') (hkp : k'.isPar = false := by rfl) : H w0 L n (σ.set s k') a w' c (fun s' b => if s' = s then G b else F s' b) := by
  have hI : ∀ b, c.I b → w'.heap[b]? = w.heap[b]? := fun b hb => hw b fun htop => (h.top_not_I htop).2 hb
  have hF : ∀ s', s' ≠ s → ∀ b, F s' b → w'.heap[b]? = w.heap[b]? := fun s' hne b hb => hw b fun htop => hne (h.disj _ _ _ hb (h.top_not_I htop).1)
  refine ⟨h.keeps.step ho ht hp (by omega) (fun b hb hl => hw b fun htop => ?_), h.size, h.defers, fun t => (h.tm t).mono (fun _ _ h => h) (fun _ h => h) hI, fun s' k1 hk1 => ?_, fun s' hs' => ?_, fun s1 s2 b h1 h2 => ?_, fun s' b hb => ?_, fun b hb => by rw [hz]; exact h.imm b hb, fun s' b hb => ?_, fun s' v x hs' => by
    by_cases e : s' = s
    · subst e; simp [AS.set] at hs'; subst hs'; cases hkp
    · simp [AS.set, e] at hs'; exact h.par s' v x hs'⟩
  · rcases (h.new s b (h.top_not_I htop).1).1 with h1 | h1
    · omega
    · exact hl h1
  · by_cases e : s' = s
    · subst e
      simp [AS.set] at hk1
      subst hk1
      simpa using hk
    · simp [AS.set, e] at hk1
      simp only [e, if_false]
      exact (h.mem s' k1 hk1).mono (fun _ _ h => h) (fun _ h => h) hI (hF s' e)
  · have e : s' ≠ s := fun e => by subst e; simp [AS.set] at hs'
    simp [AS.set, e] at hs'
    simpa [e] using h.dom s' hs'
  · have e1 : F s1 b := by
      split at h1
      · rename_i e; subst e; exact hsub b h1
      · exact h1
    have e2 : F s2 b := by
      split at h2
      · rename_i e; subst e; exact hsub b h2
      · exact h2
    exact h.disj _ _ _ e1 e2
  · have e1 : F s' b := by
      split at hb
      · rename_i e; subst e; exact hsub b hb
      · exact hb
    rw [hz]
    exact h.new s' b e1
  · have e1 : F s' b := by
      split at hb
      · rename_i e; subst e; exact hsub b hb
      · exact hb
    exact h.inn s' b e1

def lenIs : List AV → Nat → Bool
  | [], 0 => true
  | _ :: l, n + 1 => lenIs l n
  | _, _ => false
theorem lenIs_ok : ∀ {l : List AV} {n : Nat}, lenIs l n = true → l.length = n
  | [], 0, _ => rfl
  | [], _ + 1, h => by simp [lenIs] at h
  | _ :: _, 0, h => by simp [lenIs] at h
  | _ :: l, n + 1, h => by simp [lenIs_ok (l := l) (n := n) h]

def opStore (E : Tab) (σ : AS) (t : TypeId) (x y : T) (K : AS → Prop) : Prop :=
  match E.ty t, y.cells with
  | some (sz, _), some ys => if lenIs ys sz = true then (match x with
    | .one (.ptr s j) => match σ.mem s with
      | some (.var xs) => if j + sz ≤ xs.length then K (σ.set s (.var (xs.take j ++ ys ++ xs.drop (j + sz)))) else False
      | _ => False
    | .one (.eptr s i j) => match σ.mem s with
      | some (.row p rz es) => ∃ e, es[i]? = some e ∧ if j + sz ≤ e.length then ∃ es', es' = es.set i (e.take j ++ ys.map AV.bor ++ e.drop (j + sz)) ∧ K (σ.set s (.row (p && ys.all fun y => y.bor.isData) rz es')) else False
      | _ => False
    | _ => False) else False
  | _, _ => False

theorem RL.seg {xs ys : List AV} {vs us : List Value} (h : RL c w xs vs) (k : RL c w ys us) (j sz : Nat) (hl : ys.length = sz) : RL c w (xs.take j ++ ys ++ xs.drop (j + sz)) (vs.take j ++ us ++ vs.drop (j + sz)) :=
  ((h.take j).append k).append (h.drop _)

theorem run_storeVar {t : TypeId} {sz : Nat} {g : Bool} (hty : tyI P t = some (sz, g)) {V : Value} (hl : V.cells.size = sz) {b o : Nat} {cur : Array Value} {e : TypeId} {fz : Nat × Nat} (hg : w.heap[b]? = some (.cells cur e fz)) {sz2 : Nat} (hfz : Unfz sz2 cur fz) (hfit : o + sz ≤ cur.size) (h1 : ∀ v ∈ V.cells.toList, v.oneCell' = true) :
    (Instr.storeAt t (.pointer (some ⟨b, o, none⟩)) V).run P w = .ok () (w.setRow b (cur.toList.take o ++ V.cells.toList ++ cur.toList.drop (o + sz)).toArray) := by
  obtain ⟨i, d, hi, hd, rfl, _, _⟩ := tyI_some hty
  have := run_storeCells_unfz P b o e fz V.cells.toList 0 cur w hg hfz (by simpa [hl] using hfit) h1
  simp only [Nat.add_zero, Array.length_toList, hl] at this
  simp [Instr.storeAt, Instr.sureAddr, storeVar, run_sizeOf hi, hl, this]

theorem RL.set_world {xs : List AV} {vs : List Value} {w' : World} (h : RL c w xs vs) (hI : ∀ b, c.I b → w'.heap[b]? = w.heap[b]?) : RL c w' xs vs := h.mono (fun _ _ h => h) (fun _ h => h) hI

theorem opStore_ok {E : Tab} (hE : E.ok P) (h : H w0 L n σ a w c F) {t : TypeId} {x y : T} {X Y : Value} {K : AS → Prop} (hX : RT c w x X) (hY : RT c w y Y) (hk : opStore E σ t x y K) :
    ∃ σ' w', K σ' ∧ (Instr.storeAt t X Y).run P w = .ok () w' ∧ ∃ c' F', H w0 L n σ' a w' c' F' := by
  unfold opStore at hk
  split at hk
  case h_2 => exact hk.elim
  rename_i sz g ys hty hys
  replace hty := Tab.ty_ok hE hty
  split at hk
  case isFalse => exact hk.elim
  rename_i hl
  replace hl := lenIs_ok hl
  have hYc := RT_cells hys hY
  have hYl : Y.cells.size = sz := by have := hYc.length; rw [hl] at this; simpa using this.symm
  split at hk
  · rename_i s j
    split at hk
    case h_2 => exact hk.elim
    rename_i xs hs
    split at hk
    case isFalse => exact hk.elim
    rename_i hle
    obtain ⟨hX, _⟩ := hX
    cases hX with | @ptr _ _ b hp =>
    obtain ⟨b', C, e, fz, a1, a2, a3, a4, a5⟩ := h.mem s _ hs
    rw [hp] at a1; cases a1
    have hCl : j + sz ≤ C.size := by have := a4.length; rw [this] at hle; simpa using hle
    have hrun := run_storeVar (P := P) (o := j) hty hYl a2 a3 hCl hYc.ones
    refine ⟨_, _, hk, hrun, c, _, h.setBlk hs (G := F s) (fun _ h => h) (fun b' hb' => setRow_other w b b' _ fun e => hb' (by subst e; exact .inl hp)) (by simp) rfl rfl rfl ?_⟩
    have hI : ∀ q, c.I q → (w.setRow b (C.toList.take j ++ Y.cells.toList ++ C.toList.drop (j + sz)).toArray).heap[q]? = w.heap[q]? := fun q hq => setRow_other w b q _ fun e => by
      subst e; exact (h.top_not_I (.inl hp)).2 hq
    refine ⟨b, _, e, fz, hp, setRow_heap w b C _ e fz a2, fun i hi => a3 i ?_, ?_, a5⟩
    · simp at hi; omega
    · exact ((a4.seg hYc j sz hl).set_world hI)
  · rename_i s i j
    split at hk
    case h_2 => exact hk.elim
    rename_i p rz es hs
    obtain ⟨e, he, hk⟩ := hk
    split at hk
    case isFalse => exact hk.elim
    rename_i hle
    obtain ⟨_, rfl, hk⟩ := hk
    obtain ⟨hX, _⟩ := hX
    cases hX with | @eptr _ _ _ b cap rz' hp =>
    rcases h.mem s _ hs with ⟨a1, _⟩ | ⟨b', cap', a1, C, el, fz, G, b1, b2, b3, b4, b5, b6, b7, b8, b9, b10, b11, b12⟩
    · rw [hp] at a1; cases a1
    rw [hp] at a1; cases a1
    obtain ⟨hi, rfl⟩ := List.getElem?_eq_some_iff.1 he
    have hel := b6 _ (List.getElem_mem hi)
    have hfit : i * rz + j + sz ≤ C.size := by
      rw [b5]
      have : (i + 1) * rz ≤ cap * rz := Nat.mul_le_mul_right _ (by omega)
      rw [Nat.add_mul] at this; omega
    have hrun := run_storeVar (P := P) (o := i * rz + j) hty hYl b1 b2 hfit hYc.ones
    have hI : ∀ q, c.I q → (w.setRow b (C.toList.take (i * rz + j) ++ Y.cells.toList ++ C.toList.drop (i * rz + j + sz)).toArray).heap[q]? = w.heap[q]? := fun q hq => setRow_other w b q _ fun e => by
      subst e; exact (h.top_not_I (.inr ⟨_, _, hp⟩)).2 hq
    -- the blocks that the row owns behind the store
    let G' : Nat → Nat → Nat → Prop := fun i' j' k => ¬ (i' = i ∧ j ≤ j' ∧ j' < j + sz) ∧ G i' j' k
    have hbF : ∀ i j k, G i j k → F s k := fun i j k hk => (b12 k).2 (.inr ⟨i, j, hk⟩)
    refine ⟨_, _, hk, hrun, c, _, h.setBlk hs (G := fun k => k = b ∨ ∃ i j, G' i j k) (fun k hk => ?_) (fun b' hb' => setRow_other w b b' _ fun e => hb' (by subst e; exact .inr ⟨_, _, hp⟩)) (by simp) rfl rfl rfl ?_⟩
    · rcases hk with rfl | ⟨i', j', hk⟩
      · exact (b12 k).2 (.inl rfl)
      · exact hbF _ _ _ hk.2
    -- a cell of the new row: an old one, or one of the new value's
    have hcell : ∀ (i' j' : Nat) (x : AV), elt (es.set i (es[i].take j ++ ys.map AV.bor ++ es[i].drop (j + sz))) i' j' = some x →
        (¬ (i' = i ∧ j ≤ j' ∧ j' < j + sz) ∧ elt es i' j' = some x) ∨ (i' = i ∧ j ≤ j' ∧ j' < j + sz ∧ ∃ y, ys[j' - j]? = some y ∧ x = y.bor) := fun i' j' x hx => by
      unfold elt at hx
      rw [List.getElem?_set] at hx
      by_cases e : i = i'
      · subst e
        rw [if_pos rfl, if_pos hi] at hx
        simp only [Option.bind_some] at hx
        have hlt : (es[i].take j).length = j := by rw [List.length_take]; omega
        by_cases h1 : j' < j
        · rw [List.append_assoc, List.getElem?_append_left (by omega), List.getElem?_take, if_pos h1] at hx
          exact .inl ⟨by omega, by simp [elt, hi, hx]⟩
        · by_cases h2 : j' < j + sz
          · rw [List.append_assoc, List.getElem?_append_right (by omega), hlt, List.getElem?_append_left (by simp [hl]; omega), List.getElem?_map] at hx
            cases hy : ys[j' - j]? with
            | none => simp [hy] at hx
            | some y => simp [hy] at hx; exact .inr ⟨rfl, by omega, h2, y, rfl, hx.symm⟩
          · rw [List.getElem?_append_right (by simp [hl]; omega)] at hx
            simp only [List.length_append, hlt, List.length_map, hl, List.getElem?_drop] at hx
            rw [show j + sz + (j' - (j + sz)) = j' by omega] at hx
            exact .inl ⟨by omega, by simp [elt, hi, hx]⟩
      · rw [if_neg e] at hx
        exact .inl ⟨fun h => e h.1.symm, hx⟩
    have hval : ∀ (i' j' : Nat), i' < es.length → j' < rz → ∀ v, (C.toList.take (i * rz + j) ++ Y.cells.toList ++ C.toList.drop (i * rz + j + sz)).toArray[i' * rz + j']? = some v →
        (¬ (i' = i ∧ j ≤ j' ∧ j' < j + sz) → C[i' * rz + j']? = some v) ∧ (i' = i ∧ j ≤ j' ∧ j' < j + sz → Y.cells.toList[j' - j]? = some v) := fun i' j' hi' hj' v hv => by
      have hlt : (C.toList.take (i * rz + j)).length = i * rz + j := by rw [List.length_take, Array.length_toList]; omega
      have hv' : (C.toList.take (i * rz + j) ++ Y.cells.toList ++ C.toList.drop (i * rz + j + sz))[i' * rz + j']? = some v := by simpa using hv
      have hYs : Y.cells.toList.length = sz := by simpa using hYl
      refine ⟨fun hn => ?_, fun hy => ?_⟩
      · by_cases h1 : i' * rz + j' < i * rz + j
        · rw [List.append_assoc, List.getElem?_append_left (by omega), List.getElem?_take, if_pos h1] at hv'
          simpa using hv'
        · have h2 : ¬ i' * rz + j' < i * rz + j + sz := fun h2 => hn (by
            have e : i' = i := by
              rcases Nat.lt_trichotomy i' i with h | h | h
              · have : (i' + 1) * rz ≤ i * rz := Nat.mul_le_mul_right _ h
                rw [Nat.add_mul] at this; omega
              · exact h
              · have : (i + 1) * rz ≤ i' * rz := Nat.mul_le_mul_right _ h
                rw [Nat.add_mul] at this; omega
            subst e
            omega)
          rw [List.getElem?_append_right (by simp only [List.length_append, hlt, hYs]; omega)] at hv'
          simp only [List.length_append, hlt, hYs, List.getElem?_drop] at hv'
          rw [show i * rz + j + sz + (i' * rz + j' - (i * rz + j + sz)) = i' * rz + j' by omega] at hv'
          simpa using hv'
      · obtain ⟨rfl, h1, h2⟩ := hy
        rw [List.append_assoc, List.getElem?_append_right (by omega), hlt, List.getElem?_append_left (by omega)] at hv'
        rw [← hv']; congr 1; omega
    have hlen' : ∀ e' ∈ es.set i (es[i].take j ++ ys.map AV.bor ++ es[i].drop (j + sz)), e'.length = rz := fun e' he' => by
      rcases List.mem_or_eq_of_mem_set he' with h1 | h1
      · exact b6 _ h1
      · subst h1; simp [hl, hel]; omega
    refine .inr ⟨b, cap, hp, _, el, fz, G', setRow_heap w b C _ el fz b1, fun q hq => b2 q ?_, by simpa using b3, b4, ?_, hlen', fun i' j' x v hx hv => ?_, fun i' j' x v hx hv => ?_, fun i' j' hk => b9 _ _ hk.2, fun i1 j1 i2 j2 k h1 h2 => b10 _ _ _ _ _ h1.2 h2.2, fun i' j' k hk => ?_, fun k => Iff.rfl⟩
    · simp [hYl] at hq; omega
    · simp [hYl]; omega
    · obtain ⟨hi', hj'⟩ := elt_lt hlen' hx
      obtain ⟨v1, v2⟩ := hval i' j' (by simpa using hi') hj' v hv
      rcases hcell i' j' x hx with ⟨hn, hx'⟩ | ⟨e1, e2, e3, y, hy, rfl⟩
      · exact b7 i' j' x v hx' (v1 hn)
      · exact (hYc.at hy (v2 ⟨e1, e2, e3⟩)).2
    · obtain ⟨hi', hj'⟩ := elt_lt hlen' hx
      obtain ⟨v1, v2⟩ := hval i' j' (by simpa using hi') hj' v hv
      rcases hcell i' j' x hx with ⟨hn, hx'⟩ | ⟨e1, e2, e3, y, hy, rfl⟩
      · have hG : ∀ k, G' i' j' k ↔ G i' j' k := fun k => by simp only [G', and_iff_right hn]
        have hG2 : G' i' j' = G i' j' := funext fun k => propext (hG k)
        rw [hG2]
        rcases b8 i' j' x v hx' (v1 hn) with h1 | ⟨h1, h2, h3⟩
        · exact .inl (h1.mono (fun _ _ h => h) (fun _ h => h) hI fun k hk => setRow_other w b k _ fun e => by subst e; exact b9 _ _ hk)
        · exact .inr ⟨by rw [h1]; rfl, h2, h3.1.mono (fun _ _ h => h) (fun _ h => h) hI, h3.2⟩
      · have hno : ∀ k, ¬ G' i' j' k := fun k hk => hk.1 ⟨e1, e2, e3⟩
        have hR := ((hYc.at hy (v2 ⟨e1, e2, e3⟩)).1.mono (fun _ _ h => h) (fun _ h => h) hI).bor
        cases hd : y.bor.isData with
        | true => exact .inl (.plain hd hR hno)
        | false =>
          refine .inr ⟨?_, hno, hR, by cases hc : y.bor.isCell with
            | false => rfl
            | true => rw [bor_cell hc] at hd; cases hd⟩
          rw [Bool.and_eq_false_iff]
          right
          rw [List.all_eq_false]
          exact ⟨y, List.mem_of_getElem? hy, by simp [hd]⟩
    · have hx := b11 i' j' k hk.2
      obtain ⟨x, hx⟩ := Option.isSome_iff_exists.1 hx
      have : elt (es.set i (es[i].take j ++ ys.map AV.bor ++ es[i].drop (j + sz))) i' j' = some x := by
        unfold elt at hx ⊢
        rw [List.getElem?_set]
        by_cases e : i = i'
        · subst e
          rw [if_pos rfl, if_pos hi]
          simp only [Option.bind_some]
          have hlt : (es[i].take j).length = j := by rw [List.length_take]; omega
          simp [hi] at hx
          by_cases h1 : j' < j
          · rw [List.append_assoc, List.getElem?_append_left (by omega), List.getElem?_take, if_pos h1]; exact hx
          · have h2 : ¬ j' < j + sz := fun h2 => hk.1 ⟨rfl, by omega, h2⟩
            rw [List.getElem?_append_right (by simp [hl]; omega)]
            simp only [List.length_append, hlt, List.length_map, hl, List.getElem?_drop]
            rw [show j + sz + (j' - (j + sz)) = j' by omega]; exact hx
        · rw [if_neg e]; exact hx
      rw [this]; rfl
  · exact hk.elim
end
end Go.Proofs.Ytlijeincckbdaaa
