/- The abstract machine: a row that is given away and handed back in another order, with others among it. -/
import Derived.Test.YtlijeincckbdaaaB4
namespace Go.Proofs.Ytlijeincckbdaaa
open Go.RowKit
set_option linter.unusedSimpArgs false
set_option linter.unusedVariables false
set_option maxHeartbeats 2000000

section
variable {P : Program} {w0 w : World} {L : Nat → Prop} {n : Nat} {σ : AS} {a : Act} {c : Ctx} {F : Nat → Nat → Prop}

/-- A row as it lies in memory: its block b holds C; there is room for cap elements. -/
def RowH (w : World) (sz : Nat) (X : Value) (b : Nat) (C : Array Value) (m cap : Nat) : Prop :=
  (X = .slice none 0 0 ∧ m = 0 ∧ cap = 0 ∧ C = #[] ∧ b = w.heap.size) ∨
  ∃ e fz A, w.heap[b]? = some (.cells C e fz) ∧ Unfz sz C fz ∧ X = .slice A m cap ∧ (0 < cap → A = some ⟨b, 0, none⟩) ∧ m ≤ cap ∧ cap ≤ maxLen ∧ C.size = cap * sz

/-- THE GIVEN ROW, AND ITS RETURN: the new row's elements are those of the old one at π, or plain data. -/
theorem H.reRow (h : H w0 L n σ a w c F) {s sz : Nat} {es : List (List AV)} (hs : σ.mem s = some (.row true sz es)) {X : Value} (hX : R c w (.loc s 0 es.length) X) :
    ∃ b C cap, RowH w sz X b C es.length cap ∧ (∀ s2 b2 cap2 sz2, s2 ≠ s → c.at_ s2 = some (.row b2 cap2 sz2) → b2 ≠ b) ∧
      (∀ k, k < C.size → ∀ i j, k = i * sz + j → ∀ x, elt es i j = some x → ∃ v, C[k]? = some v ∧ v.oneCell' = true) ∧
      ∀ (w' : World) (A' : Option Addr) (b' cap' : Nat) (C' : Array Value) (e' : TypeId) (fz' : Nat × Nat) (es' : List (List AV)) (π : Nat → Option Nat), Keeps (fun k => k = b) w w' → w'.heap[b']? = some (.cells C' e' fz') → Unfz sz C' fz' →
        (b' = b ∨ w.heap.size ≤ b') → es'.length ≤ cap' → cap' ≤ maxLen → C'.size = cap' * sz → (0 < cap' → A' = some ⟨b', 0, none⟩) → (∀ e ∈ es', e.length = sz) → (∀ i i' p, π i = some p → π i' = some p → i = i') →
        (∀ i j x, elt es' i j = some x → (∃ p, π i = some p ∧ elt es p j = some x ∧ C'[i * sz + j]? = C[p * sz + j]?) ∨ (π i = none ∧ ∃ v, C'[i * sz + j]? = some v ∧ v.oneCell' = true ∧ R c w x v ∧ x.isData = true)) →
        ∃ c' F', H w0 L n ((σ.drop s).add s (.row true sz es')) a w' c' F' ∧ RT c' w' (.one (.loc s 0 es'.length)) (.slice A' es'.length cap') := by
  have hd := h.drop s
  have hnone : (σ.drop s).mem s = none := by simp [AS.drop]
  have hext : ∀ (si : SI) (J : Nat → Prop), (∀ s' i', (c.del s).at_ s' = some i' → ((c.del s).add s si J).at_ s' = some i') ∧ ∀ b, (c.del s).I b → ((c.del s).add s si J).I b := fun si J => Ctx.add_ext (by simp [Ctx.del]) si J
  -- the old row: its block, its cells, what it owns
  have hold : ∃ b C cap, ∃ G : Nat → Nat → Nat → Prop, RowH w sz X b C es.length cap ∧ ¬ c.I b ∧ (∀ s', s' ≠ s → ¬ F s' b) ∧ (b < w.heap.size → F s b) ∧ (∀ i j k, G i j k → F s k ∧ c.I k) ∧
      (∀ i j i' j' k, G i j k → G i' j' k → i = i' ∧ j = j') ∧ (∀ i j x, elt es i j = some x → ∃ v, C[i * sz + j]? = some v ∧ v.oneCell' = true ∧ RO c w (G i j) x v) ∧ (∀ i j k, G i j k → (elt es i j).isSome = true) := by
    rcases h.mem s _ hs with ⟨hat, rfl, hF0⟩ | ⟨b, cap, hat, hB⟩
    · have hX0 : X = .slice none 0 0 := by
        cases hX with
        | locnil => rfl
        | loc h1 => rw [hat] at h1; cases h1
      exact ⟨w.heap.size, #[], 0, fun _ _ _ => False, .inl ⟨hX0, rfl, rfl, rfl, rfl⟩, fun hI => by have := h.imm _ hI; omega, fun s' _ hF => by have := (h.new s' _ hF).2; omega, fun hlt => by omega, fun _ _ _ h => h.elim, fun _ _ _ _ _ h => h.elim, fun i j x hx => by simp [elt] at hx, fun _ _ _ h => h.elim⟩
    · obtain ⟨C, el, fz, G, a1, a2, a3, a4, a5, a6, a7, a8, a9, a10, a11, a12⟩ := hB
      have hFb : F s b := (a12 b).2 (.inl rfl)
      refine ⟨b, C, cap, G, .inr ⟨el, fz, ?_⟩, (h.top_not_I (.inr ⟨_, _, hat⟩)).2, fun s' hne hb' => hne (h.disj _ _ _ hb' hFb), fun _ => hFb, fun i j k hk => ?_, a10, fun i j x hx => ?_, a11⟩
      · generalize hq : es.length = q at hX
        cases hX with
        | locnil h1 => rw [hat] at h1; cases h1
        | @loc _ _ _ b' cap' sz' A h1 hle hA =>
          rw [hat] at h1; cases h1
          exact ⟨A, a1, a2, rfl, fun hc0 => by simpa using hA hc0, by rw [← hq]; exact a3, a4, a5⟩
      · have hFk : F s k := (a12 k).2 (.inr ⟨i, j, hk⟩)
        refine ⟨hFk, (h.inn s k hFk).2 ?_⟩
        rintro (ht | ⟨_, _, ht⟩)
        · rw [hat] at ht; cases ht
        · rw [hat] at ht; cases ht; exact a9 i j hk
      · obtain ⟨hi, hj⟩ := elt_lt a6 hx
        have hlt := fit_lt hi hj a3
        have hv : C[i * sz + j]? = some (C[i * sz + j]'(by omega)) := by simp
        exact ⟨_, hv, a7 i j x _ hx hv, (a8 i j x _ hx hv).resolve_right (by simp)⟩
  obtain ⟨b, C, cap, G, hR, hbI, hbF, hFb, hGF, hGd, hcell, hGs⟩ := hold
  refine ⟨b, C, cap, hR, fun s2 b2 cap2 sz2 hne hat2 he => ?_, fun k hk i j hkk x hx => ?_, ?_⟩
  · subst he
    exact hbF s2 hne (h.top_not_I (.inr ⟨_, _, hat2⟩)).1
  · obtain ⟨v, h1, h2, _⟩ := hcell i j x hx
    exact ⟨v, by rw [hkk]; exact h1, h2⟩
  intro w' A' b' cap' C' e' fz' es' π hk hC' hfz' hb' hfit' hm' hs' hA' hlens hinj hel
  have hI : ∀ q, c.I q → w'.heap[q]? = w.heap[q]? := fun q hq => hk.block q (h.imm q hq) fun e => by subst e; exact hbI hq
  have hb'I : ¬ c.I b' := fun hI' => by
    rcases hb' with rfl | hge
    · exact hbI hI'
    · have := h.imm _ hI'; omega
  have hb'F : ∀ s', s' ≠ s → ¬ F s' b' := fun s' hne hF => by
    rcases hb' with rfl | hge
    · exact hbF s' hne hF
    · have := (h.new s' _ hF).2; omega
  have hb'lt : b' < w'.heap.size := by
    rcases Nat.lt_or_ge b' w'.heap.size with e | e
    · exact e
    · simp [Array.getElem?_eq_none e] at hC'
  have hH0 : H w0 L n (σ.drop s) a w' (c.del s) (fun s' b => s' ≠ s ∧ F s' b) := hd.touch hk.os hk.tape hk.output hk.size hI (fun s' q hq => hk.block q (h.new s' q hq.2).2 fun e => by subst e; exact hbF s' hq.1 hq.2)
    (fun q hq hl => hk.block q (Nat.lt_of_lt_of_le hq h.keeps.size) fun e => by
      subst e
      rcases (h.new s _ (hFb (Nat.lt_of_lt_of_le hq h.keeps.size))).1 with h1 | h1
      · omega
      · exact hl h1)
  let G' : Nat → Nat → Nat → Prop := fun i j k => (elt es' i j).isSome = true ∧ ∃ p, π i = some p ∧ G p j k
  have hG' : ∀ i j k, G' i j k → F s k ∧ c.I k := fun i j k ⟨_, p, _, hg⟩ => hGF p j k hg
  have hH := hH0.addSite' (s := s) (k := .row true sz es') (i := .row b' cap' sz) (G := fun k => k = b' ∨ ∃ i j, G' i j k) hnone
    (fun k hkk => by
      rcases hkk with rfl | ⟨i, j, hkk⟩
      · refine ⟨?_, hb'lt, fun s' hs' => hb'F s' hs'.1 hs'.2⟩
        rcases Nat.lt_or_ge k w.heap.size with hlt | hge
        · rcases hb' with rfl | hge
          · exact (h.new s _ (hFb hlt)).1
          · omega
        · exact .inl (Nat.le_trans h.keeps.size hge)
      · obtain ⟨h1, h2⟩ := hG' i j k hkk
        exact ⟨(h.new s k h1).1, Nat.lt_of_lt_of_le (h.new s k h1).2 hk.size, fun s' hs' => hs'.1 (h.disj _ _ _ hs'.2 h1)⟩)
    (fun k hkk _ hI' => by
      have hk' : k = b' := hkk
      subst hk'
      exact hb'I hI')
    (.inr ⟨b', cap', by simp [Ctx.add], C', e', fz', G', hC', hfz', hfit', hm', hs', hlens, fun i j x v hx hv => by
        rcases hel i j x hx with ⟨p, _, hp, hc⟩ | ⟨_, u, hu, h1, _⟩
        · obtain ⟨u, hu, h1, _⟩ := hcell p j x hp
          rw [hc, hu] at hv; cases hv; exact h1
        · rw [hu] at hv; cases hv; exact h1, fun i j x v hx hv => by
        rcases hel i j x hx with ⟨p, hπ, hp, hc⟩ | ⟨hπ, u, hu, _, h1, h2⟩
        · obtain ⟨u, hu, _, h1⟩ := hcell p j x hp
          rw [hc, hu] at hv; cases hv
          have hGe : G' i j = G p j := by
            funext k
            refine propext ⟨fun ⟨_, p', hp', hg⟩ => ?_, fun hg => ⟨by rw [hx]; rfl, p, hπ, hg⟩⟩
            rw [hπ] at hp'; cases hp'; exact hg
          rw [hGe]
          exact .inl (RO.ctx (c := c) (fun q hq => (hext _ _).2 q hq) (h1.mono (fun _ _ h => h) (fun _ h => h) hI fun q hq => hI q (hGF p j q hq).2))
        · rw [hu] at hv; cases hv
          refine .inl (.plain h2 ?_ fun k ⟨_, p, hp, _⟩ => by rw [hπ] at hp; cases hp)
          exact R.free (c := c) (fun q hq => (hext _ _).2 q hq) hI h1 (by cases x <;> simp_all [AV.isData, AV.isFree]),
      fun i j hg => hb'I (hG' i j b' hg).2, fun i j i' j' k ⟨_, p, hp, h1⟩ ⟨_, p', hp', h2⟩ => by
        obtain ⟨rfl, rfl⟩ := hGd _ _ _ _ _ h1 h2
        exact ⟨hinj _ _ _ hp hp', rfl⟩, fun i j k hg => hg.1, fun k => Iff.rfl⟩)
  refine ⟨_, _, hH, ?_, rfl⟩
  have := R.loc (c := (c.del s).add s (.row b' cap' sz) (fun k => (fun k => k = b' ∨ ∃ i j, G' i j k) k ∧ ¬ (SI.row b' cap' sz).isTop k)) (w := w') (s := s) (off := 0) (len := es'.length) (b := b') (cap := cap') (sz := sz) (A := A') (by simp [Ctx.add]) (by rw [Nat.zero_add]; exact hfit') (fun h0 => by simpa using hA' h0)
  simpa using this
end
end Go.Proofs.Ytlijeincckbdaaa
