/- The abstract machine: how the abstract state holds on when a temporary is set, a place is made, the world moves on. -/
import Derived.Test.YtlijeincckbdaaaA1
namespace Go.Proofs.Ytlijeincckbdaaa
open Go.RowKit
set_option linter.unusedSimpArgs false
set_option linter.unusedVariables false

def AS.put (σ : AS) (d : Option Nat) (t : T) : AS :=
  match d with
  | some d => { σ with tm := fun k => if k = d then t else σ.tm k }
  | none => σ
def AS.add (σ : AS) (s : Nat) (k : Blk) : AS := { σ with mem := fun s' => if s' = s then some k else σ.mem s' }
def AS.adds (σ : AS) : List (Nat × Blk) → AS
  | [] => σ
  | (s, k) :: l => (σ.add s k).adds l

def T.ofConst : Value → T
  | .agg cs => if cs.toList.all (·.oneCell') then .agg (cs.toList.map .lit) else .dead
  | .tuple _ => .dead
  | v => .one (.lit v)
def AS.get (σ : AS) : Operand → T
  | .tmp t => σ.tm t
  | .const v => .ofConst v
  | .func f => .one (.fn f [])
  | .global _ => .dead

theorem RL.lits (c : Ctx) (w : World) : ∀ (vs : List Value), vs.all (·.oneCell') = true → RL c w (vs.map .lit) vs
  | [], _ => trivial
  | v :: vs, h => by
    simp only [List.all_cons, Bool.and_eq_true] at h
    exact ⟨⟨.lit v, h.1⟩, RL.lits c w vs h.2⟩

theorem RT.const (c : Ctx) (w : World) (v : Value) : RT c w (.ofConst v) v := by
  unfold T.ofConst
  split
  · rename_i cs
    split
    · rename_i h; exact RL.lits c w _ h
    · trivial
  · trivial
  · rename_i h1 h2
    refine ⟨.lit v, ?_⟩
    cases v <;> first | rfl | exact absurd rfl (h1 _) | exact absurd rfl (h2 _)

section
variable {w0 w : World} {L : Nat → Prop} {n : Nat} {σ : AS} {a : Act} {c : Ctx} {F : Nat → Nat → Prop}

theorem H.get (h : H w0 L n σ a w c F) (x : Operand) : RT c w (σ.get x) (a.eval x) := by
  cases x with
  | tmp t => exact h.tm t
  | const v => exact RT.const c w v
  | global g => trivial
  | func f => exact ⟨.fn (by simp) (by simp) (by simp), rfl⟩

theorem Keeps.refl (L : Nat → Prop) (w : World) : Keeps L w w := ⟨rfl, rfl, rfl, Nat.le_refl _, fun _ _ _ => rfl⟩

theorem RT.dead_of (c : Ctx) (w : World) (v : Value) : RT c w .dead v := trivial

theorem H.put (h : H w0 L n σ a w c F) {d : Option Nat} (hd : ∀ k, d = some k → k < n) {t : T} {v : Value} (ht : RT c w t v) : H w0 L n (σ.put d t) (a.put d v) w c F := by
  cases d with
  | none => exact h
  | some d =>
    have hd := hd d rfl
    refine ⟨h.keeps, by simp [Act.put, h.size], h.defers, fun k => ?_, h.mem, h.dom, h.disj, h.new, h.imm, h.inn, h.par⟩
    simp only [AS.put, Act.put]
    by_cases hk : k = d
    · subst hk
      have hs := h.size
      simp [hs, hd, ht]
    · rw [if_neg hk]
      have h3 : (a.tmps.setIfInBounds d v)[k]? = a.tmps[k]? := by rw [Array.getElem?_setIfInBounds_ne (fun e => hk e.symm)]
      have : (a.tmps.setIfInBounds d v).getD k undef = a.tmps.getD k undef := by simp only [Array.getD_eq_getD_getElem?, h3]
      rw [this]; exact h.tm k

theorem Keeps.step {w' : World} (h : Keeps L w0 w) (ho : w'.os = w.os) (ht : w'.tape = w.tape) (hp : w'.output = w.output) (hs : w.heap.size ≤ w'.heap.size)
    (hb : ∀ k, k < w0.heap.size → ¬ L k → w'.heap[k]? = w.heap[k]?) : Keeps L w0 w' :=
  ⟨ho.trans h.os, ht.trans h.tape, hp.trans h.output, Nat.le_trans h.size hs, fun k hk hl => (hb k hk hl).trans (h.block k hk hl)⟩

theorem BlkOk.mono {c' : Ctx} {w' : World} {F : Nat → Prop} {s : Nat} {k : Blk} (h1 : ∀ s i, c.at_ s = some i → c'.at_ s = some i) (h2 : ∀ b, c.I b → c'.I b) (h3 : ∀ b, c.I b → w'.heap[b]? = w.heap[b]?)
    (hF : ∀ b, F b → w'.heap[b]? = w.heap[b]?) (h : BlkOk c w F s k) : BlkOk c' w' F s k := by
  cases k with
  | var xs =>
    obtain ⟨b, C, e, fz, a1, a2, a3, a4, a5⟩ := h
    exact ⟨b, C, e, fz, h1 _ _ a1, (hF b ((a5 b).2 rfl)).trans a2, a3, a4.mono h1 h2 h3, a5⟩
  | row p sz es =>
    rcases h with ⟨a1, a2, a3⟩ | ⟨b, cap, a1, a2⟩
    · exact .inl ⟨h1 _ _ a1, a2, a3⟩
    · exact .inr ⟨b, cap, h1 _ _ a1, a2.mono h1 h2 h3 hF⟩
  | par v x =>
    exact ⟨h1 _ _ h.1, h.2⟩
  | pin s' i =>
    obtain ⟨a1, a2, a3⟩ := h
    exact ⟨h1 _ _ a1, a2, h1 _ _ a3⟩

/-- Of the places that are there, m tells what the state tells. -/
def Sup (σ : AS) (m : Nat → Option Blk) : Prop := (∀ s k, m s = some k → σ.mem s = none ∨ σ.mem s = some k) ∧ ∀ s k, k.isPar = true → m s = some k → σ.mem s = some k
theorem Sup.refl (σ : AS) : Sup σ σ.mem := ⟨fun _ _ h => .inr h, fun _ _ _ h => h⟩
/-- More places, and none that is not new. -/
def Le (m m' : Nat → Option Blk) : Prop := (∀ s k, m s = some k → m' s = some k) ∧ ∀ s k, k.isPar = true → m' s = some k → m s = some k
theorem Le.refl (m : Nat → Option Blk) : Le m m := ⟨fun _ _ h => h, fun _ _ _ h => h⟩
theorem H.look (h : H w0 L n σ a w c F) {m : Nat → Option Blk} (hm : Sup σ m) {s : Nat} {i : SI} {k : Blk} (hs : c.at_ s = some i) (hk : m s = some k) : σ.mem s = some k :=
  (hm.1 s k hk).resolve_left fun e => by have := (h.dom s e).1; rw [hs] at this; cases this

/-- The world moves on, and no old block is written. -/
theorem H.world {w' : World} (h : H w0 L n σ a w c F) (hb : Below w.heap.size w w') : H w0 L n σ a w' c F := by
  have h3 : ∀ b, c.I b → w'.heap[b]? = w.heap[b]? := fun b hI => hb.block b (h.imm b hI)
  have h4 : ∀ s b, F s b → w'.heap[b]? = w.heap[b]? := fun s b hF => hb.block b (h.new s b hF).2
  exact ⟨h.keeps.step hb.os hb.tape hb.output hb.size (fun k hk _ => hb.block k (Nat.lt_of_lt_of_le hk h.keeps.size)), h.size, h.defers, fun t => (h.tm t).mono (fun _ _ h => h) (fun _ h => h) h3,
    fun s k hk => (h.mem s k hk).mono (fun _ _ h => h) (fun _ h => h) h3 (h4 s), h.dom, h.disj, fun s k hk => ⟨(h.new s k hk).1, Nat.lt_of_lt_of_le (h.new s k hk).2 hb.size⟩,
    fun k hk => Nat.lt_of_lt_of_le (h.imm k hk) hb.size, h.inn, h.par⟩

/-- The context with one place more. -/
def Ctx.add (c : Ctx) (s : Nat) (i : SI) (J : Nat → Prop) : Ctx := ⟨fun s' => if s' = s then some i else c.at_ s', fun k => c.I k ∨ J k⟩
def SI.isTop : SI → Nat → Prop
  | .var b, k => k = b
  | .row b _ _, k => k = b
  | .nil, _ => False

theorem Ctx.top_add_self (c : Ctx) (s : Nat) (i : SI) (J : Nat → Prop) (k : Nat) : (c.add s i J).top s k ↔ i.isTop k := by
  cases i <;> simp [Ctx.top, Ctx.add, SI.isTop] <;> exact ⟨fun h => h.symm, fun h => h.symm⟩
theorem Ctx.top_add_ne (c : Ctx) {s s' : Nat} (hs : s' ≠ s) (i : SI) (J : Nat → Prop) (k : Nat) : (c.add s i J).top s' k ↔ c.top s' k := by
  simp [Ctx.top, Ctx.add, hs]

theorem Ctx.add_ext {c : Ctx} {s : Nat} (h : c.at_ s = none) (i : SI) (J : Nat → Prop) : (∀ s' i', c.at_ s' = some i' → (c.add s i J).at_ s' = some i') ∧ ∀ b, c.I b → (c.add s i J).I b :=
  ⟨fun s' i' h' => by
    have : s' ≠ s := fun e => by subst e; rw [h] at h'; cases h'
    simp [Ctx.add, this, h'], fun b hb => .inl hb⟩

/-- A new place, in new blocks. -/
theorem H.addSite {w' : World} (h : H w0 L n σ a w c F) (hb : Below w.heap.size w w') {s : Nat} {k : Blk} (hs : σ.mem s = none) {i : SI} {G : Nat → Prop}
    (hG : ∀ b, G b → w.heap.size ≤ b ∧ b < w'.heap.size) (hk : BlkOk (c.add s i (fun b => G b ∧ ¬ i.isTop b)) w' G s k) (hkp : k.isPar = false := by rfl) :
    H w0 L n (σ.add s k) a w' (c.add s i (fun b => G b ∧ ¬ i.isTop b)) (fun s' b => (s' = s ∧ G b) ∨ F s' b) := by
  have h' := h.world hb
  have hd := h.dom s hs
  obtain ⟨e1, e2⟩ := Ctx.add_ext hd.1 i (fun b => G b ∧ ¬ i.isTop b)
  have hF : (fun b => (s = s ∧ G b) ∨ F s b) = G := by funext b; simp [hd.2 b]
  have hns : ∀ s' b, s' ≠ s → ((s' = s ∧ G b) ∨ F s' b ↔ F s' b) := fun s' b hn => by simp [hn]
  refine ⟨h'.keeps, h'.size, h'.defers, fun t => (h'.tm t).mono e1 e2 (fun _ _ => rfl), fun s' k' hk' => ?_, fun s' hs' => ?_, fun s1 s2 b h1 h2 => ?_, fun s' b hb' => ?_, fun b hb' => ?_, fun s' b hb' => ?_, fun s' v x hs' => by
    by_cases e : s' = s
    · subst e; simp [AS.add] at hs'; subst hs'; cases hkp
    · simp [AS.add, e] at hs'; exact h.par s' v x hs'⟩
  · by_cases e : s' = s
    · subst e
      simp [AS.add] at hk'
      subst hk'
      rw [hF]; exact hk
    · simp [AS.add, e] at hk'
      have := (h'.mem s' k' hk').mono e1 e2 (fun _ _ => rfl) (fun _ _ => rfl)
      rw [show (fun b => (s' = s ∧ G b) ∨ F s' b) = F s' from funext fun b => propext (hns s' b e)]
      exact this
  · have e : s' ≠ s := fun e => by subst e; simp [AS.add] at hs'
    simp [AS.add, e] at hs'
    have := h'.dom s' hs'
    exact ⟨by simp [Ctx.add, e, this.1], fun b => by rw [hns s' b e]; exact this.2 b⟩
  · rcases h1 with ⟨rfl, h1⟩ | h1 <;> rcases h2 with ⟨rfl, h2⟩ | h2
    · rfl
    · exact absurd (h.new _ _ h2).2 (by have := (hG b h1).1; omega)
    · exact absurd (h.new _ _ h1).2 (by have := (hG b h2).1; omega)
    · exact h.disj _ _ _ h1 h2
  · rcases hb' with ⟨rfl, h1⟩ | h1
    · exact ⟨.inl (Nat.le_trans h.keeps.size (hG b h1).1), (hG b h1).2⟩
    · exact h'.new _ _ h1
  · rcases hb' with h1 | h1
    · exact h'.imm _ h1
    · exact (hG b h1.1).2
  · by_cases e : s' = s
    · subst e
      have hg : G b := by rcases hb' with h1 | h1; exact h1.2; exact absurd h1 (hd.2 b)
      rw [Ctx.top_add_self]
      constructor
      · rintro (h1 | h1)
        · exact absurd (h.imm b h1) (by have := (hG b hg).1; omega)
        · exact h1.2
      · exact fun h1 => .inr ⟨hg, h1⟩
    · rw [Ctx.top_add_ne c e]
      have h1 : F s' b := (hns s' b e).1 hb'
      rw [← h.inn s' b h1]
      constructor
      · rintro (h2 | h2)
        · exact h2
        · exact absurd (h.new s' b h1).2 (by have := (hG b h2.1).1; omega)
      · exact .inl

/-- A new variable. -/
theorem H.newVar (h : H w0 L n σ a w c F) {s : Nat} (hs : σ.mem s = none) {xs : List AV} {C : Array Value} {e : TypeId} (hC : RL c w xs C.toList) :
    ∃ c' F', H w0 L n (σ.add s (.var xs)) a (w.alloc (.cells C e)) c' F' ∧ c'.at_ s = some (.var w.heap.size) := by
  have hb : Below w.heap.size w (w.alloc (.cells C e)) := (Below.refl _ _).alloc (Nat.le_refl _) _
  have hd := h.dom s hs
  refine ⟨_, _, h.addSite (i := .var w.heap.size) (G := fun b => b = w.heap.size) hb hs (fun b hb => by subst hb; simp) ?_, by simp [Ctx.add]⟩
  obtain ⟨e1, e2⟩ := Ctx.add_ext hd.1 (.var w.heap.size) (fun b => (fun b => b = w.heap.size) b ∧ ¬ (SI.var w.heap.size).isTop b)
  refine ⟨w.heap.size, C, e, (0, 0), by simp [Ctx.add], heap_alloc_new w _, fun i _ => by simp, hC.mono e1 e2 (fun b hI => ?_), fun k => Iff.rfl⟩
  exact hb.block b (h.imm b hI)

/-- A cell of a variable of the call's own. -/
theorem H.varCell (h : H w0 L n σ a w c F) {s : Nat} {xs : List AV} (hs : σ.mem s = some (.var xs)) :
    ∃ b C e fz, c.at_ s = some (.var b) ∧ w.heap[b]? = some (.cells C e fz) ∧ Unfz 1 C fz ∧ RL c w xs C.toList ∧ F s b := by
  obtain ⟨b, C, e, fz, a1, a2, a3, a4, a5⟩ := h.mem s _ hs
  exact ⟨b, C, e, fz, a1, a2, a3, a4, (a5 b).2 rfl⟩
end
end Go.Proofs.Ytlijeincckbdaaa
