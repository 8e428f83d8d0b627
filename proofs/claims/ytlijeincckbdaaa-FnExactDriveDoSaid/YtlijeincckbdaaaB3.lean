/- The abstract machine: a row at a place of its own, and the same row inside another one. -/
import Derived.Test.YtlijeincckbdaaaB2
namespace Go.Proofs.Ytlijeincckbdaaa
open Go.RowKit
set_option linter.unusedSimpArgs false
set_option linter.unusedVariables false

section
variable {w0 w : World} {L : Nat → Prop} {n : Nat} {σ : AS} {a : Act} {c : Ctx} {F : Nat → Nat → Prop}

theorem elt_mid {A B : List (List AV)} {e : List AV} {i j : Nat} {x : AV} (h : elt (A ++ e :: B) i j = some x) :
    (i < A.length ∧ elt A i j = some x) ∨ (i = A.length ∧ e[j]? = some x) ∨ (A.length < i ∧ elt B (i - A.length - 1) j = some x) := by
  unfold elt at h ⊢
  rcases Nat.lt_trichotomy i A.length with hi | hi | hi
  · left; rw [List.getElem?_append_left hi] at h; exact ⟨hi, h⟩
  · right; left; subst hi; simp at h; exact ⟨rfl, h⟩
  · right; right
    rw [List.getElem?_append_right (by omega)] at h
    rw [show i - A.length = (i - A.length - 1) + 1 by omega, List.getElem?_cons_succ] at h
    exact ⟨hi, h⟩
theorem get_mid {e1 e2 : List AV} {y : AV} {j : Nat} {x : AV} (h : (e1 ++ y :: e2)[j]? = some x) :
    (j < e1.length ∧ e1[j]? = some x) ∨ (j = e1.length ∧ x = y) ∨ (e1.length < j ∧ e2[j - e1.length - 1]? = some x) := by
  rcases Nat.lt_trichotomy j e1.length with hj | hj | hj
  · left; rw [List.getElem?_append_left hj] at h; exact ⟨hj, h⟩
  · right; left; subst hj; simp at h; exact ⟨rfl, h.symm⟩
  · right; right
    rw [List.getElem?_append_right (by omega)] at h
    rw [show j - e1.length = (j - e1.length - 1) + 1 by omega, List.getElem?_cons_succ] at h
    exact ⟨hj, h⟩

/-- The element in the middle turned into another one: each cell is the old one, or the one in the middle. -/
theorem elt_turn {A B : List (List AV)} {e1 e2 : List AV} {y : AV} (z : AV) {i j : Nat} {x : AV} (h : elt (A ++ (e1 ++ y :: e2) :: B) i j = some x) :
    (¬ (i = A.length ∧ j = e1.length) ∧ elt (A ++ (e1 ++ z :: e2) :: B) i j = some x) ∨ (i = A.length ∧ j = e1.length ∧ x = y ∧ elt (A ++ (e1 ++ z :: e2) :: B) i j = some z) := by
  rcases elt_mid h with ⟨hi, h1⟩ | ⟨rfl, h1⟩ | ⟨hi, h1⟩
  · left; refine ⟨by omega, ?_⟩
    unfold elt at h1 ⊢
    rw [List.getElem?_append_left hi]; exact h1
  · rcases get_mid h1 with ⟨hj, h2⟩ | ⟨rfl, rfl⟩ | ⟨hj, h2⟩
    · left; refine ⟨by omega, ?_⟩
      unfold elt
      simp only [List.getElem?_append_right (Nat.le_refl _), Nat.sub_self, List.getElem?_cons_zero, Option.bind_some]
      rw [List.getElem?_append_left hj]; exact h2
    · right; refine ⟨rfl, rfl, rfl, ?_⟩
      unfold elt; simp
    · left; refine ⟨by omega, ?_⟩
      unfold elt
      simp only [List.getElem?_append_right (Nat.le_refl _), Nat.sub_self, List.getElem?_cons_zero, Option.bind_some]
      rw [List.getElem?_append_right (by omega), show j - e1.length = (j - e1.length - 1) + 1 by omega, List.getElem?_cons_succ]
      exact h2
  · left; refine ⟨by omega, ?_⟩
    unfold elt at h1 ⊢
    rw [List.getElem?_append_right (by omega), show i - A.length = (i - A.length - 1) + 1 by omega, List.getElem?_cons_succ]; exact h1

theorem R.locI {s off len : Nat} {v : Value} (h : R c w (.loc s off len) v) {b cap sz : Nat} (hat : c.at_ s = some (.row b cap sz)) : ∃ A, v = .slice A len (cap - off) ∧ off + len ≤ cap ∧ (off < cap → A = some ⟨b, off * sz, none⟩) := by
  cases h with
  | loc h1 a b => rw [hat] at h1; cases h1; exact ⟨_, rfl, a, b⟩
  | locnil h1 => rw [hat] at h1; cases h1
theorem R.locN {s off len : Nat} {v : Value} (h : R c w (.loc s off len) v) (hat : c.at_ s = some .nil) : v = .slice none 0 0 ∧ off = 0 ∧ len = 0 := by
  cases h with
  | loc h1 => rw [hat] at h1; cases h1
  | locnil h1 => exact ⟨rfl, rfl, rfl⟩

/-- A row at a place of its own, named in a cell of another row, is that other row's. -/
theorem H.absorb (h : H w0 L n σ a w c F) {r s sz sz2 : Nat} {p p' : Bool} {A B : List (List AV)} {e1 e2 : List AV} {es2 : List (List AV)} (hne : r ≠ s)
    (hr : σ.mem r = some (.row p sz (A ++ (e1 ++ .loc s 0 es2.length :: e2) :: B))) (hs : σ.mem s = some (.row true sz2 es2))
    (hno : ∀ (i j : Nat) (x : AV), ¬ (i = A.length ∧ j = e1.length) → elt (A ++ (e1 ++ .loc s 0 es2.length :: e2) :: B) i j = some x → x.noref s = true)
    (hp : p' = true → ∀ (i j : Nat) (x : AV), ¬ (i = A.length ∧ j = e1.length) → elt (A ++ (e1 ++ .loc s 0 es2.length :: e2) :: B) i j = some x → x.isCell = true) :
    ∃ c' F', H w0 L n ((σ.drop s).set r (.row p' sz (A ++ (e1 ++ .row true sz2 es2 :: e2) :: B))) a w c' F' := by
  have hBr := h.mem r _ hr
  have hBs := h.mem s _ hs
  rcases hBr with ⟨_, hnil, _⟩ | ⟨b, cap, hat, C, te, fz, G, b1, b2, b3, b4, b5, b6, b7, b8, b9, b10, b11, b12⟩
  · simp at hnil
  -- the cell
  have hmid : elt (A ++ (e1 ++ .loc s 0 es2.length :: e2) :: B) A.length e1.length = some (.loc s 0 es2.length) := by unfold elt; simp
  let c' : Ctx := ⟨(c.del s).at_, fun k => c.I k ∨ c.top s k⟩
  let F' : Nat → Nat → Prop := fun s' k => if s' = r then F r k ∨ F s k else s' ≠ s ∧ F s' k
  have hd := h.drop s
  have hm1 : ∀ s' i, (c.del s).at_ s' = some i → c'.at_ s' = some i := fun _ _ h => h
  have hm2 : ∀ b, (c.del s).I b → c'.I b := fun _ h => .inl h
  have htopF : ∀ k, c.top s k → F s k := fun k ht => (h.top_not_I ht).1
  -- the row in the cell
  have hin : ∀ v, R c w (.loc s 0 es2.length) v → RO c' w (F s) (.row true sz2 es2) v := fun v hv => by
    rcases hBs with ⟨h1, h2, h3⟩ | ⟨b', cap', h1, h2⟩
    · obtain ⟨rfl, _, h4⟩ := hv.locN h1
      subst h2
      exact .nil h3
    · obtain ⟨A0, rfl, h4, h5⟩ := hv.locI h1
      have := h2.own (A := A0) (fun hc => by simpa using h5 hc)
      exact RO.ctx (c := c) (c' := c') (fun _ h => .inl h) (by simpa using this)
  have hrow : RowB c' w p' b cap sz (A ++ (e1 ++ .row true sz2 es2 :: e2) :: B) (fun k => F r k ∨ F s k) := by
    refine ⟨C, te, fz, fun i j k => G i j k ∨ (i = A.length ∧ j = e1.length ∧ F s k), b1, b2, by simpa using b3, b4, b5, fun e he => ?_, fun i j x v hx hv => ?_, fun i j x v hx hv => ?_, fun i j hk => ?_, fun i j i' j' k h1 h2 => ?_, fun i j k hk => ?_, fun k => ?_⟩
    · rcases List.mem_append.1 he with h1 | h1
      · exact b6 e (by simp [h1])
      · rcases List.mem_cons.1 h1 with rfl | h1
        · have := b6 (e1 ++ .loc s 0 es2.length :: e2) (by simp)
          simpa using this
        · exact b6 e (by simp [h1])
    · rcases elt_turn (.loc s 0 es2.length) hx with ⟨_, h1⟩ | ⟨rfl, rfl, _, h1⟩
      · exact b7 i j x v h1 hv
      · exact b7 _ _ _ v h1 hv
    · rcases elt_turn (.loc s 0 es2.length) hx with ⟨hn, h1⟩ | ⟨rfl, rfl, rfl, h1⟩
      · have hG : (fun k => G i j k ∨ (i = A.length ∧ j = e1.length ∧ F s k)) = G i j := funext fun k => propext ⟨fun h => h.elim id fun ⟨h1, h2, _⟩ => absurd ⟨h1, h2⟩ hn, .inl⟩
        dsimp only; rw [hG]
        rcases b8 i j x v h1 hv with h2 | ⟨h2, h3, h4, h5⟩
        · exact .inl (RO.ctx (c := c) (c' := c') (fun _ h => .inl h) h2)
        · refine .inr ⟨?_, fun k hk => hk.elim (h3 k) (fun h => hn ⟨h.1, h.2.1⟩), (h4.noref (hno i j x hn h1)).mono hm1 hm2 (fun _ _ => rfl), h5⟩
          cases p' with
          | false => rfl
          | true => rw [hp rfl i j x hn h1] at h5; cases h5
      · have hG : (fun k => G A.length e1.length k ∨ (A.length = A.length ∧ e1.length = e1.length ∧ F s k)) = F s := funext fun k => propext ⟨fun h => h.elim (fun h => by
          rcases b8 _ _ _ v h1 hv with h2 | ⟨_, h3, _⟩
          · have := h2.isCell; cases this
          · exact absurd h (h3 k)) (·.2.2), fun h => .inr ⟨rfl, rfl, h⟩⟩
        dsimp only; rw [hG]
        rcases b8 _ _ _ v h1 hv with h2 | ⟨h2, h3, h4, h5⟩
        · have := h2.isCell; cases this
        · exact .inl (hin v h4)
    · rcases hk with hk | ⟨_, _, hk⟩
      · exact b9 _ _ hk
      · exact hne (h.disj _ _ _ ((b12 b).2 (.inl rfl)) hk)
    · rcases h1 with h1 | ⟨rfl, rfl, h1⟩ <;> rcases h2 with h2 | ⟨rfl, rfl, h2⟩
      · exact b10 _ _ _ _ _ h1 h2
      · exact absurd (h.disj _ _ _ ((b12 k).2 (.inr ⟨_, _, h1⟩)) h2) hne
      · exact absurd (h.disj _ _ _ ((b12 k).2 (.inr ⟨_, _, h2⟩)) h1) hne
      · exact ⟨rfl, rfl⟩
    · rcases hk with hk | ⟨rfl, rfl, _⟩
      · have := b11 i j k hk
        obtain ⟨x, hx⟩ := Option.isSome_iff_exists.1 this
        rcases elt_turn (.row true sz2 es2) hx with ⟨_, h1⟩ | ⟨_, _, _, h1⟩ <;> rw [h1] <;> rfl
      · unfold elt; simp
    · dsimp only; rw [b12 k]
      constructor
      · rintro ((h1 | ⟨i, j, h1⟩) | h1)
        · exact .inl h1
        · exact .inr ⟨i, j, .inl h1⟩
        · exact .inr ⟨_, _, .inr ⟨rfl, rfl, h1⟩⟩
      · rintro (h1 | ⟨i, j, h1 | ⟨_, _, h1⟩⟩)
        · exact .inl (.inl h1)
        · exact .inl (.inr ⟨i, j, h1⟩)
        · exact .inr h1
  have hF'r : F' r = fun k => F r k ∨ F s k := by funext k; simp [F']
  have hF'o : ∀ s', s' ≠ r → F' s' = fun k => s' ≠ s ∧ F s' k := fun s' hs' => by funext k; simp [F', hs']
  have hcr : (c.del s).at_ r = c.at_ r := by simp [Ctx.del, hne]
  refine ⟨c', F', hd.keeps, hd.size, hd.defers, fun t => (hd.tm t).mono hm1 hm2 (fun _ _ => rfl), fun s' k hk => ?_, fun s' hs' => ?_, fun s1 s2 k h1 h2 => ?_, fun s' k hk => ?_, fun k hk => ?_, fun s' k hk => ?_, fun s' v x hk => ?_⟩
  rotate_right
  · by_cases e : s' = r
    · subst e; simp [AS.set] at hk
    · simp only [AS.set, if_neg e] at hk
      exact hd.par s' v x hk
  · by_cases e : s' = r
    · subst e
      simp [AS.set] at hk
      subst hk
      rw [hF'r]
      exact .inr ⟨b, cap, hcr.trans hat, hrow⟩
    · simp only [AS.set, if_neg e] at hk
      rw [hF'o s' e]
      exact (hd.mem s' k hk).mono hm1 hm2 (fun _ _ => rfl) (fun _ _ => rfl)
  · have e : s' ≠ r := fun e => by subst e; simp [AS.set] at hs'
    simp only [AS.set, if_neg e] at hs'
    have := hd.dom s' hs'
    exact ⟨this.1, fun k hk => this.2 k (by rw [hF'o s' e] at hk; exact hk)⟩
  · have g : ∀ s' k, F' s' k → ∃ s'', F s'' k ∧ (s'' = s' ∨ (s' = r ∧ s'' = s)) ∧ s' ≠ s := fun s' k hk => by
      by_cases e : s' = r
      · subst e
        rw [hF'r] at hk
        rcases hk with hk | hk
        · exact ⟨_, hk, .inl rfl, hne⟩
        · exact ⟨_, hk, .inr ⟨rfl, rfl⟩, hne⟩
      · rw [hF'o s' e] at hk
        exact ⟨_, hk.2, .inl rfl, hk.1⟩
    obtain ⟨u1, g1, g2, g3⟩ := g s1 k h1
    obtain ⟨u2, f1, f2, f3⟩ := g s2 k h2
    have := h.disj _ _ _ g1 f1
    subst this
    rcases g2 with rfl | ⟨rfl, rfl⟩ <;> rcases f2 with f2 | ⟨f2, f2'⟩
    · exact f2
    · exact absurd f2' g3
    · exact absurd f2.symm f3
    · exact f2.symm
  · by_cases e : s' = r
    · subst e
      rw [hF'r] at hk
      rcases hk with hk | hk
      · exact h.new _ _ hk
      · exact h.new _ _ hk
    · rw [hF'o s' e] at hk
      exact h.new _ _ hk.2
  · rcases hk with hk | hk
    · exact h.imm k hk
    · exact (h.new _ _ (htopF k hk)).2
  · have htop : ∀ s', s' ≠ s → (c'.top s' k ↔ c.top s' k) := fun s' hs' => by simp [Ctx.top, c', Ctx.del, hs']
    by_cases e : s' = r
    · subst e
      rw [hF'r] at hk
      rw [htop _ hne]
      rcases hk with hk | hk
      · rw [← h.inn _ k hk]
        constructor
        · rintro (h1 | h1)
          · exact h1
          · exact absurd (h.disj _ _ _ hk (htopF k h1)) hne
        · exact .inl
      · constructor
        · exact fun _ ht => hne (h.disj _ _ _ (h.top_not_I ht).1 hk)
        · intro _
          by_cases ht : c.top s k
          · exact .inr ht
          · exact .inl ((h.inn s k hk).2 ht)
    · rw [hF'o s' e] at hk
      rw [htop _ hk.1, ← h.inn _ k hk.2]
      constructor
      · rintro (h1 | h1)
        · exact h1
        · exact absurd (h.disj _ _ _ hk.2 (htopF k h1)) hk.1
      · exact .inl

/-- A row inside another one, brought to a place of its own. -/
theorem H.focus {tl : List (Nat × T)} {m : Nat → Option Blk} (h : H w0 L n ⟨lkT tl, m⟩ a w c F) {r s sz sz2 : Nat} {p : Bool} {A B : List (List AV)} {e1 e2 : List AV} {es2 : List (List AV)}
    (hst : (tl.all fun p => p.2.safe) = true) (hsm : ∀ s' k, m s' = some k → k.safe = true) (hn : nbRow es2 = true)
    (hr : m r = some (.row p sz (A ++ (e1 ++ .row true sz2 es2 :: e2) :: B))) (hs : m s = none) :
    ∃ c' F', H w0 L n ⟨lkT tl, fun s' => if s' = r then some (.row false sz (A ++ (e1 ++ .loc s 0 es2.length :: e2) :: B)) else if s' = s then some (.row true sz2 es2) else m s'⟩ a w c' F' := by
  have hne : s ≠ r := fun e => by subst e; rw [hr] at hs; cases hs
  have hBr := h.mem r _ hr
  rcases hBr with ⟨_, hnil, _⟩ | ⟨b, cap, hat, C, te, fz, G, b1, b2, b3, b4, b5, b6, b7, b8, b9, b10, b11, b12⟩
  · simp at hnil
  have hmid : elt (A ++ (e1 ++ .row true sz2 es2 :: e2) :: B) A.length e1.length = some (.row true sz2 es2) := by unfold elt; simp
  obtain ⟨hi, hj⟩ := elt_lt b6 hmid
  have hlt := fit_lt hi hj b3
  have hvc : C[A.length * sz + e1.length]? = some (C[A.length * sz + e1.length]'(by omega)) := by simp
  generalize hv0 : C[A.length * sz + e1.length]'(by omega) = v0 at hvc
  have hRO : RO c w (G A.length e1.length) (.row true sz2 es2) v0 := (b8 _ _ _ _ hmid hvc).resolve_right fun h => by cases h.2.2.2
  have hd := h.dom s hs
  have hGF : ∀ k, G A.length e1.length k → F r k := fun k hk => (b12 k).2 (.inr ⟨_, _, hk⟩)
  have hGI : ∀ k, G A.length e1.length k → c.I k := fun k hk => (h.inn r k (hGF k hk)).2 fun ht => by
    rcases ht with ht | ⟨_, _, ht⟩ <;> rw [hat] at ht <;> cases ht
    exact b9 _ _ hk
  -- where the inner row lies
  obtain ⟨i0, hi0, htop0, hblk0, hloc0⟩ : ∃ i0 : SI, (∀ k, i0.isTop k → G A.length e1.length k) ∧ (i0 = .nil ∨ ∃ b' cap', i0 = .row b' cap' sz2) ∧
      (∀ c' : Ctx, c'.at_ s = some i0 → BlkOk c' w (G A.length e1.length) s (.row true sz2 es2)) ∧ (∀ c' : Ctx, c'.at_ s = some i0 → R c' w (.loc s 0 es2.length) v0) := by
    rcases hRO.inv with ⟨h1, h2, h3⟩ | ⟨b', cap', A0, h1, h2, h3⟩
    · subst h1
      exact ⟨.nil, fun _ h => h.elim, .inl rfl, fun c' hc => .inl ⟨hc, rfl, h3⟩, fun c' hc => by rw [h2]; exact .locnil hc⟩
    · have hcap : es2.length ≤ cap' := by obtain ⟨_, _, _, _, _, _, h5, _⟩ := h3; exact h5
      refine ⟨.row b' cap' sz2, fun k hk => ?_, .inr ⟨b', cap', rfl⟩, fun c' hc => .inr ⟨b', cap', hc, h3.nb hn⟩, fun c' hc => ?_⟩
      · obtain ⟨_, _, _, _, _, _, _, _, _, _, _, _, _, _, _, h16⟩ := h3
        exact (h16 k).2 (.inl hk)
      · rw [h1]
        have := R.loc (c := c') (w := w) (s := s) (off := 0) (len := es2.length) (A := A0) hc (by omega) (fun h => by simpa using h2 h)
        simpa using this
  let c' : Ctx := ⟨fun s' => if s' = s then some i0 else c.at_ s', fun k => c.I k ∧ ¬ i0.isTop k⟩
  let F' : Nat → Nat → Prop := fun s' k => if s' = s then G A.length e1.length k else if s' = r then F r k ∧ ¬ G A.length e1.length k else F s' k
  have hF's : F' s = G A.length e1.length := by funext k; simp [F']
  have hF'r : F' r = fun k => F r k ∧ ¬ G A.length e1.length k := by funext k; simp [F', hne.symm]
  have hF'o : ∀ s', s' ≠ s → s' ≠ r → F' s' = F s' := fun s' h1 h2 => by funext k; simp [F', h1, h2]
  have hat' : ∀ s', s' ≠ s → c'.at_ s' = c.at_ s' := fun s' h1 => by simp [c', h1]
  have hats : c'.at_ s = some i0 := by simp [c']
  -- contexts: c ⊆ cX ⊆ c'
  let cX : Ctx := ⟨c'.at_, c.I⟩
  have hx1 : ∀ s' i, c.at_ s' = some i → cX.at_ s' = some i := fun s' i hi => by
    have : s' ≠ s := fun e => by subst e; rw [hd.1] at hi; cases hi
    simp only [cX, hat' s' this]; exact hi
  have hmT : ∀ t, RT c' w (lkT tl t) (a.tmps.getD t undef) := fun t => RT.safe (c := cX) (c' := c') (w := w) rfl ((h.tm t).mono hx1 (fun _ h => h) (fun _ _ => rfl)) (lkT_safe hst t)
  have hother : ∀ s' k, s' ≠ s → s' ≠ r → m s' = some k → BlkOk c' w (F s') s' k := fun s' k h1 h2 hk => by
    have hB := (h.mem s' k hk).mono hx1 (fun _ h => h) (fun _ _ => rfl) (fun _ _ => rfl) (c' := cX)
    have hsafe := hsm s' k hk
    cases k with
    | var xs =>
      obtain ⟨b, C, e, fz, a1, a2, a3, a4, a5⟩ := hB
      exact ⟨b, C, e, fz, a1, a2, a3, RL.safe (c := cX) (c' := c') (w := w) rfl a4 hsafe, a5⟩
    | row p sz es =>
      rcases hB with ⟨h1, h2, h3⟩ | ⟨b, cap, h1, h2⟩
      · exact .inl ⟨h1, h2, h3⟩
      · exact .inr ⟨b, cap, h1, RowB.safe (c := cX) (c' := c') rfl h2 hsafe fun _ _ => rfl⟩
    | par v x => exact hB
    | pin s' i => exact hB
  have hsafer := hsm r _ hr
  have hrow : RowB c' w false b cap sz (A ++ (e1 ++ .loc s 0 es2.length :: e2) :: B) (fun k => F r k ∧ ¬ G A.length e1.length k) := by
    refine ⟨C, te, fz, fun i j k => G i j k ∧ ¬ (i = A.length ∧ j = e1.length), b1, b2, by simpa using b3, b4, b5, fun e he => ?_, fun i j x v hx hv => ?_, fun i j x v hx hv => ?_, fun i j hk => b9 _ _ hk.1, fun i j i' j' k h1 h2 => b10 _ _ _ _ _ h1.1 h2.1, fun i j k hk => ?_, fun k => ?_⟩
    · rcases List.mem_append.1 he with h1 | h1
      · exact b6 e (by simp [h1])
      · rcases List.mem_cons.1 h1 with rfl | h1
        · have := b6 (e1 ++ .row true sz2 es2 :: e2) (by simp)
          simpa using this
        · exact b6 e (by simp [h1])
    · rcases elt_turn (.row true sz2 es2) hx with ⟨_, h1⟩ | ⟨rfl, rfl, _, h1⟩
      · exact b7 i j x v h1 hv
      · exact b7 _ _ _ v h1 hv
    · rcases elt_turn (.row true sz2 es2) hx with ⟨hn', h1⟩ | ⟨rfl, rfl, rfl, h1⟩
      · have hG : (fun k => G i j k ∧ ¬ (i = A.length ∧ j = e1.length)) = G i j := funext fun k => propext ⟨(·.1), fun h => ⟨h, hn'⟩⟩
        dsimp only; rw [hG]
        have hxs : (x.nb 5 || x.safe) = true := by
          simp only [Blk.safe, List.all_eq_true] at hsafer
          unfold elt at h1
          cases he : (A ++ (e1 ++ .row true sz2 es2 :: e2) :: B)[i]? with
          | none => simp [he] at h1
          | some e => simp only [he, Option.bind_some] at h1; exact hsafer e (List.mem_of_getElem? he) x (List.mem_of_getElem? h1)
        rcases b8 i j x v h1 hv with h2 | ⟨h2, h3, h4, h5⟩
        · have hn5 : x.nb 5 = true := by
            rcases Bool.or_eq_true_iff.1 hxs with h6 | h6
            · exact h6
            · have := h2.isCell
              cases x <;> first | rfl | (cases h6; done) | (cases this; done)
          exact .inl (h2.nb 5 hn5)
        · refine .inr ⟨rfl, fun k hk => h3 k hk.1, R.safe (c := cX) (c' := c') (w := w) rfl (h4.mono hx1 (fun _ h => h) (fun _ _ => rfl)) ?_, h5⟩
          rcases Bool.or_eq_true_iff.1 hxs with h6 | h6
          · cases x <;> first | (cases h5; done) | (cases h6; done)
          · exact h6
      · refine .inr ⟨rfl, fun k hk => hk.2 ⟨rfl, rfl⟩, ?_, rfl⟩
        have : v = v0 := by rw [hv] at hvc; exact Option.some.inj hvc
        subst this
        exact hloc0 c' hats
    · have := b11 i j k hk.1
      obtain ⟨x, hx⟩ := Option.isSome_iff_exists.1 this
      rcases elt_turn (.loc s 0 es2.length) hx with ⟨_, h1⟩ | ⟨_, _, _, h1⟩ <;> rw [h1] <;> rfl
    · dsimp only; rw [b12 k]
      constructor
      · rintro ⟨h1 | ⟨i, j, h1⟩, h2⟩
        · exact .inl h1
        · exact .inr ⟨i, j, h1, fun ⟨e1, e2⟩ => by subst e1 e2; exact h2 h1⟩
      · rintro (h1 | ⟨i, j, h1, h2⟩)
        · exact ⟨.inl h1, by subst h1; exact b9 _ _⟩
        · exact ⟨.inr ⟨i, j, h1⟩, fun h3 => h2 (b10 _ _ _ _ _ h1 h3)⟩
  refine ⟨c', F', h.keeps, h.size, h.defers, hmT, fun s' k hk => ?_, fun s' hs' => ?_, fun s1 s2 k h1 h2 => ?_, fun s' k hk => ?_, fun k hk => h.imm k hk.1, fun s' k hk => ?_, fun s' v x hk => ?_⟩
  rotate_right
  · simp only at hk
    split at hk
    · cases hk
    · split at hk
      · cases hk
      · exact h.par s' v x hk
  · simp only at hk
    split at hk
    · rename_i e; subst e; cases hk
      rw [hF'r]
      exact .inr ⟨b, cap, (hat' _ hne.symm).trans hat, hrow⟩
    · rename_i e
      split at hk
      · rename_i e'; subst e'; cases hk
        rw [hF's]; exact hblk0 c' hats
      · rename_i e'
        rw [hF'o s' e' e]
        exact hother s' k e' e hk
  · simp only at hs'
    split at hs'
    · cases hs'
    · rename_i e
      split at hs'
      · cases hs'
      · rename_i e'
        rw [hat' s' e', hF'o s' e' e]; exact h.dom s' hs'
  · have g : ∀ s' k, F' s' k → (s' = s ∧ G A.length e1.length k) ∨ (s' ≠ s ∧ F s' k ∧ ¬ G A.length e1.length k) := fun s' k hk => by
      by_cases e' : s' = s
      · subst e'; rw [hF's] at hk; exact .inl ⟨rfl, hk⟩
      · by_cases e : s' = r
        · subst e; rw [hF'r] at hk; exact .inr ⟨e', hk⟩
        · rw [hF'o s' e' e] at hk; exact .inr ⟨e', hk, fun hg => e (h.disj _ _ _ hk (hGF k hg))⟩
    rcases g s1 k h1 with ⟨rfl, g1⟩ | ⟨g0, g1, g2⟩ <;> rcases g s2 k h2 with ⟨rfl, f1⟩ | ⟨f0, f1, f2⟩
    · rfl
    · exact absurd g1 f2
    · exact absurd f1 g2
    · exact h.disj _ _ _ g1 f1
  · by_cases e' : s' = s
    · subst e'; rw [hF's] at hk; exact h.new r k (hGF k hk)
    · by_cases e : s' = r
      · subst e; rw [hF'r] at hk; exact h.new _ k hk.1
      · rw [hF'o s' e' e] at hk; exact h.new _ k hk
  · by_cases e' : s' = s
    · subst e'
      rw [hF's] at hk
      have ht : c'.top s' k ↔ i0.isTop k := by
        rcases htop0 with rfl | ⟨b', cap', rfl⟩
        · simp [Ctx.top, hats, SI.isTop]
        · simp [Ctx.top, hats, SI.isTop]; exact eq_comm
      rw [ht]
      exact ⟨(·.2), fun h1 => ⟨hGI k hk, h1⟩⟩
    · have ht : c'.top s' k ↔ c.top s' k := by simp [Ctx.top, hat' s' e']
      rw [ht]
      by_cases e : s' = r
      · subst e
        rw [hF'r] at hk
        rw [← h.inn _ k hk.1]
        exact ⟨(·.1), fun h1 => ⟨h1, fun h2 => hk.2 (hi0 k h2)⟩⟩
      · rw [hF'o s' e' e] at hk
        rw [← h.inn _ k hk]
        exact ⟨(·.1), fun h1 => ⟨h1, fun h2 => e (h.disj _ _ _ hk (hGF k (hi0 k h2)))⟩⟩

def cellRow (es : List (List AV)) : Bool := es.all fun e => e.all AV.isCell
theorem cellRow_elt {es : List (List AV)} (h : cellRow es = true) {i j : Nat} {x : AV} (hx : elt es i j = some x) : x.isCell = true := by
  unfold elt at hx
  simp only [cellRow, List.all_eq_true] at h
  cases he : es[i]? with
  | none => simp [he] at hx
  | some e => simp [he] at hx; exact h e (List.mem_of_getElem? he) x (List.mem_of_getElem? hx)
theorem noref_cell {s : Nat} {x : AV} (h : x.isCell = true) : x.noref s = true := by cases x <;> first | rfl | cases h
theorem cellRow_append {A B : List (List AV)} : cellRow (A ++ B) = (cellRow A && cellRow B) := by simp [cellRow, List.all_append]
theorem cellRow_cons {e : List AV} {B : List (List AV)} : cellRow (e :: B) = (e.all AV.isCell && cellRow B) := by simp [cellRow]
theorem cellRow_nil : cellRow [] = true := rfl
theorem cellRow_map {α : Type} {f : α → List AV} (h : ∀ x, (f x).all AV.isCell = true) (l : List α) : cellRow (l.map f) = true := by
  simp only [cellRow, List.all_eq_true, List.mem_map, forall_exists_index, and_imp]
  rintro e x _ rfl
  exact List.all_eq_true.1 (h x)
theorem cell_others {A B : List (List AV)} {e1 e2 : List AV} {y : AV} (hA : cellRow A = true) (hB : cellRow B = true) (h1 : e1.all AV.isCell = true) (h2 : e2.all AV.isCell = true) :
    ∀ (i j : Nat) (x : AV), ¬ (i = A.length ∧ j = e1.length) → elt (A ++ (e1 ++ y :: e2) :: B) i j = some x → x.isCell = true := by
  intro i j x hn hx
  rcases elt_mid hx with ⟨_, h⟩ | ⟨rfl, h⟩ | ⟨_, h⟩
  · exact cellRow_elt hA h
  · rcases get_mid h with ⟨_, h⟩ | ⟨rfl, _⟩ | ⟨_, h⟩
    · exact List.all_eq_true.1 h1 x (List.mem_of_getElem? h)
    · exact absurd ⟨rfl, rfl⟩ hn
    · exact List.all_eq_true.1 h2 x (List.mem_of_getElem? h)
  · exact cellRow_elt hB h

/-- The row at place s goes into the cell of row r that names it; all else in row r is data. -/
theorem weak_absorb {σ τ : AS} (r s : Nat) {sz sz2 : Nat} {p : Bool} (A B : List (List AV)) (e1 e2 : List AV) {es2 : List (List AV)} (hne : r ≠ s)
    (hr : σ.mem r = some (.row p sz (A ++ (e1 ++ .loc s 0 es2.length :: e2) :: B))) (hs : σ.mem s = some (.row true sz2 es2))
    (hA : cellRow A = true) (hB : cellRow B = true) (h1 : e1.all AV.isCell = true) (h2 : e2.all AV.isCell = true)
    (hw : Weak ((σ.drop s).set r (.row true sz (A ++ (e1 ++ .row true sz2 es2 :: e2) :: B))) τ) : Weak σ τ := by
  rintro w0 L n a w ⟨c, F, h⟩
  have hc := cell_others (y := .loc s 0 es2.length) hA hB h1 h2
  obtain ⟨c', F', h'⟩ := h.absorb (p' := true) hne hr hs (fun i j x hn hx => noref_cell (hc i j x hn hx)) (fun _ => hc)
  exact hw _ _ _ _ _ ⟨c', F', h'⟩
/-- The same where row r names other places too. -/
theorem weak_absorb_part {σ τ : AS} (r s : Nat) {sz sz2 : Nat} {p : Bool} (A B : List (List AV)) (e1 e2 : List AV) {es2 : List (List AV)} (hne : r ≠ s)
    (hr : σ.mem r = some (.row p sz (A ++ (e1 ++ .loc s 0 es2.length :: e2) :: B))) (hs : σ.mem s = some (.row true sz2 es2))
    (hA : cellRow A = true) (hB : cellRow B = true) (h1 : e1.all (AV.noref s) = true) (h2 : e2.all (AV.noref s) = true)
    (hw : Weak ((σ.drop s).set r (.row false sz (A ++ (e1 ++ .row true sz2 es2 :: e2) :: B))) τ) : Weak σ τ := by
  rintro w0 L n a w ⟨c, F, h⟩
  obtain ⟨c', F', h'⟩ := h.absorb (p' := false) hne hr hs (fun i j x hn hx => by
    rcases elt_mid hx with ⟨_, h⟩ | ⟨rfl, h⟩ | ⟨_, h⟩
    · exact noref_cell (cellRow_elt hA h)
    · rcases get_mid h with ⟨_, h⟩ | ⟨rfl, _⟩ | ⟨_, h⟩
      · exact List.all_eq_true.1 h1 x (List.mem_of_getElem? h)
      · exact absurd ⟨rfl, rfl⟩ hn
      · exact List.all_eq_true.1 h2 x (List.mem_of_getElem? h)
    · exact noref_cell (cellRow_elt hB h)) (fun h => by cases h)
  exact hw _ _ _ _ _ ⟨c', F', h'⟩
theorem weak_focus {τ : AS} {tl : List (Nat × T)} {ml : List (Nat × Blk)} (r s : Nat) {sz sz2 : Nat} {p : Bool} (A B : List (List AV)) (e1 e2 : List AV) {es2 : List (List AV)}
    (hst : (tl.all fun p => p.2.safe) = true) (hsm : (ml.all fun p => p.2.safe) = true) (hn : nbRow es2 = true)
    (hr : lkM ml r = some (.row p sz (A ++ (e1 ++ .row true sz2 es2 :: e2) :: B))) (hs : lkM ml s = none)
    (hw : Weak (AS.of tl ((r, .row false sz (A ++ (e1 ++ .loc s 0 es2.length :: e2) :: B)) :: (s, .row true sz2 es2) :: ml)) τ) : Weak (AS.of tl ml) τ := by
  rintro w0 L n a w ⟨c, F, h⟩
  obtain ⟨c', F', h'⟩ := H.focus (m := lkM ml) h hst (fun s' k hk => List.all_eq_true.1 hsm _ (lkM_mem hk)) hn hr hs
  exact hw _ _ _ _ _ ⟨c', F', h'⟩
end
end Go.Proofs.Ytlijeincckbdaaa
