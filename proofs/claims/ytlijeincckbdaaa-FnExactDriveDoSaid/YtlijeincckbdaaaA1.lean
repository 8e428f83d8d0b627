/- An abstract machine for Go functions over data in memory: abstract values, and what it means that a world holds them. No program is in sight here. -/
import Derived.WalkKit
import Derived.Orders
import Derived.Maps.AppendAt
namespace Go.Proofs.Ytlijeincckbdaaa
open Go.RowKit
set_option linter.unusedSimpArgs false
set_option linter.unusedVariables false

/-- An abstract value of one cell. -/
inductive AV where
  | dead
  | lit (v : Value)
  | ptr (s j : Nat)
  | eptr (s i j : Nat)
  | loc (s off len : Nat)
  | row (own : Bool) (sz : Nat) (es : List (List AV))
  | bptr (xs : List AV) (j : Nat)
  | fn (f : FuncId) (caps : List AV)
  | nn (sz : Nat) (es : List (List AV))
  deriving Inhabited

/-- What a temporary holds. -/
inductive T where
  | dead
  | one (x : AV)
  | agg (xs : List AV)
  | tup (ts : List (Bool × List AV))
  deriving Inhabited

inductive SI where
  | var (b : Nat)
  | row (b cap sz : Nat)
  | nil

structure Ctx where
  at_ : Nat → Option SI
  I : Nat → Prop

def elt (es : List (List AV)) (i j : Nat) : Option AV := (es[i]?).bind (·[j]?)

/-- Plain data: no place of the call's own, nothing that is owned. -/
def AV.isData : AV → Bool
  | .lit _ => true
  | .row own _ _ => !own
  | _ => false
/-- It speaks of no place of the call's own. -/
def AV.isFree : AV → Bool
  | .lit _ | .row _ _ _ | .bptr _ _ | .dead | .nn _ _ => true
  | _ => false
def AV.isCell : AV → Bool
  | .lit _ | .row _ _ _ => true
  | _ => false
def AV.bor : AV → AV
  | .row _ sz es => .row false sz es
  | .nn sz es => .row false sz es
  | x => x

/-- A value of one cell reads as this. -/
inductive R (c : Ctx) (w : World) : AV → Value → Prop where
  | dead (v : Value) : R c w .dead v
  | lit (v : Value) : R c w (.lit v) v
  | ptr {s j b : Nat} : c.at_ s = some (.var b) → R c w (.ptr s j) (.pointer (some ⟨b, j, none⟩))
  | eptr {s i j b cap sz : Nat} : c.at_ s = some (.row b cap sz) → R c w (.eptr s i j) (.pointer (some ⟨b, i * sz + j, none⟩))
  | loc {s off len b cap sz : Nat} {A : Option Addr} : c.at_ s = some (.row b cap sz) → off + len ≤ cap → (off < cap → A = some ⟨b, off * sz, none⟩) → R c w (.loc s off len) (.slice A len (cap - off))
  | locnil {s : Nat} : c.at_ s = some .nil → R c w (.loc s 0 0) (.slice none 0 0)
  | row {own : Bool} {sz : Nat} {es : List (List AV)} {A : Option Addr} {cap : Nat} (b o : Nat) (vals : Nat → Nat → Value) :
      es.length ≤ cap → cap ≤ maxLen → (0 < es.length → A = some ⟨b, o, none⟩ ∧ c.I b) → (∀ e ∈ es, e.length = sz) → (∀ (i j : Nat) (x : AV), elt es i j = some x → x.isCell = true) →
      (∀ (i j : Nat) (x : AV), elt es i j = some x → w.cell? ⟨b, o + i * sz + j, none⟩ = some (vals i j)) →
      (∀ (i j : Nat) (x : AV), elt es i j = some x → (vals i j).oneCell' = true) →
      (∀ (i j : Nat) (x : AV), elt es i j = some x → R c w x (vals i j)) → R c w (.row own sz es) (.slice A es.length cap)
  | bptr {xs : List AV} {j : Nat} (b o : Nat) (vals : Nat → Value) : c.I b → (∀ (k : Nat) (x : AV), xs[k]? = some x → x.isFree = true) →
      (∀ (k : Nat) (x : AV), xs[k]? = some x → w.cell? ⟨b, o + k, none⟩ = some (vals k)) →
      (∀ (k : Nat) (x : AV), xs[k]? = some x → (vals k).oneCell' = true) →
      (∀ (k : Nat) (x : AV), xs[k]? = some x → R c w x (vals k)) → R c w (.bptr xs j) (.pointer (some ⟨b, o + j, none⟩))
  | fn {f : FuncId} {caps : List AV} {cs : Array Value} : cs.size = caps.length → (∀ v ∈ cs.toList, v.oneCell' = true) → (∀ (k : Nat) (x : AV) (v : Value), caps[k]? = some x → cs[k]? = some v → R c w x v) →
      R c w (.fn f caps) (.func (.func f) #[] cs)
  | nn {sz : Nat} {es : List (List AV)} {A : Addr} {n cap : Nat} : R c w (.row false sz es) (.slice (some A) n cap) → R c w (.nn sz es) (.slice (some A) n cap)

theorem cell?_same {w w' : World} {b o : Nat} (h : w'.heap[b]? = w.heap[b]?) : w'.cell? ⟨b, o, none⟩ = w.cell? ⟨b, o, none⟩ := World.cell?_of_block (a := ⟨b, o, none⟩) h

/-- What is read stays, while the blocks that are not written stay and the places keep their blocks. -/
theorem R.mono {c c' : Ctx} {w w' : World} (h1 : ∀ s i, c.at_ s = some i → c'.at_ s = some i) (h2 : ∀ b, c.I b → c'.I b) (h3 : ∀ b, c.I b → w'.heap[b]? = w.heap[b]?) {x : AV} {v : Value} (h : R c w x v) : R c' w' x v := by
  induction h with
  | dead v => exact .dead v
  | lit v => exact .lit v
  | ptr h => exact .ptr (h1 _ _ h)
  | eptr h => exact .eptr (h1 _ _ h)
  | loc h a b => exact .loc (h1 _ _ h) a b
  | locnil h => exact .locnil (h1 _ _ h)
  | @row own sz es A cap b o vals a1 a2 a3 a4 a0 a5 a6 a7 ih =>
    refine .row b o vals a1 a2 (fun h => ⟨(a3 h).1, h2 _ (a3 h).2⟩) a4 a0 (fun i j x hx => ?_) a6 ih
    have hl : 0 < es.length := by
      unfold elt at hx
      cases es with
      | nil => simp at hx
      | cons e es => simp
    rw [cell?_same (h3 b (a3 hl).2)]
    exact a5 i j x hx
  | @bptr xs j b o vals a1 a0 a2 a3 a4 ih => exact .bptr b o vals (h2 _ a1) a0 (fun k x hx => by rw [cell?_same (h3 b a1)]; exact a2 k x hx) a3 ih
  | fn a1 a0 a2 ih => exact .fn a1 a0 ih
  | nn h ih => exact .nn ih

theorem bor_cell {x : AV} (h : x.bor.isCell = true) : x.bor.isData = true := by cases x <;> first | rfl | simp [AV.bor, AV.isCell] at h
theorem R.bor {c : Ctx} {w : World} {x : AV} {v : Value} (h : R c w x v) : R c w x.bor v := by
  cases h with
  | row b o vals a1 a2 a3 a4 a5 a6 a7 a8 => exact .row b o vals a1 a2 a3 a4 a5 a6 a7 a8
  | dead v => exact .dead v
  | lit v => exact .lit v
  | ptr h => exact .ptr h
  | eptr h => exact .eptr h
  | loc h a b => exact .loc h a b
  | locnil h => exact .locnil h
  | bptr b o vals a1 a2 a3 a4 a5 => exact .bptr b o vals a1 a2 a3 a4 a5
  | fn a1 a0 a2 => exact .fn a1 a0 a2
  | nn h => exact h

/-- What speaks of no place of the call's own is read alike in every context. -/
theorem R.free {c c' : Ctx} {w w' : World} (h2 : ∀ b, c.I b → c'.I b) (h3 : ∀ b, c.I b → w'.heap[b]? = w.heap[b]?) {x : AV} {v : Value} (h : R c w x v) : x.isFree = true → R c' w' x v := by
  induction h with
  | dead v => exact fun _ => .dead v
  | lit v => exact fun _ => .lit v
  | ptr h => exact fun h => by simp [AV.isFree] at h
  | eptr h => exact fun h => by simp [AV.isFree] at h
  | loc h a b => exact fun h => by simp [AV.isFree] at h
  | locnil h => exact fun h => by simp [AV.isFree] at h
  | @row own sz es A cap b o vals a1 a2 a3 a4 a0 a5 a6 a7 ih =>
    intro _
    refine .row b o vals a1 a2 (fun h => ⟨(a3 h).1, h2 _ (a3 h).2⟩) a4 a0 (fun i j x hx => ?_) a6 (fun i j x hx => ih i j x hx ?_)
    · have hl : 0 < es.length := by
        unfold elt at hx
        cases es with
        | nil => simp at hx
        | cons e es => simp
      rw [cell?_same (h3 b (a3 hl).2)]
      exact a5 i j x hx
    · have := a0 i j x hx
      cases x <;> simp_all [AV.isCell, AV.isFree]
  | @bptr xs j b o vals a1 a0 a2 a3 a4 ih =>
    exact fun _ => .bptr b o vals (h2 _ a1) a0 (fun k x hx => by rw [cell?_same (h3 b a1)]; exact a2 k x hx) a3 (fun k x hx => ih k x hx (a0 k x hx))
  | fn a1 a0 a2 ih => exact fun h => by simp [AV.isFree] at h
  | nn h ih => exact fun _ => .nn (ih rfl)

/-- No cell of a row is frozen. -/
def pad (sz : Nat) : Nat := if sz = 1 then 0 else 1
/-- .. nor, where its elements have more than one cell, the cell behind them. -/
def Unfz (sz : Nat) (C : Array Value) (fz : Nat × Nat) : Prop := ∀ i, i < C.size + pad sz → ¬ (fz.1 ≤ i ∧ i < fz.2)

/-- A value of one cell, with the blocks that it owns. -/
inductive RO (c : Ctx) (w : World) : (Nat → Prop) → AV → Value → Prop where
  | plain {F : Nat → Prop} {x : AV} {v : Value} : x.isData = true → R c w x v → (∀ k, ¬ F k) → RO c w F x v
  | nil {F : Nat → Prop} {sz : Nat} : (∀ k, ¬ F k) → RO c w F (.row true sz []) (.slice none 0 0)
  | own {F : Nat → Prop} {sz : Nat} {es : List (List AV)} {cap : Nat} {A : Option Addr} (b : Nat) (C : Array Value) (e : TypeId) (fz : Nat × Nat) (G : Nat → Nat → Nat → Prop) :
      w.heap[b]? = some (.cells C e fz) → Unfz sz C fz → es.length ≤ cap → cap ≤ maxLen → C.size = cap * sz → (∀ e ∈ es, e.length = sz) →
      (∀ (i j : Nat) (x : AV) (v : Value), elt es i j = some x → C[i * sz + j]? = some v → v.oneCell' = true) →
      (∀ (i j : Nat) (x : AV) (v : Value), elt es i j = some x → C[i * sz + j]? = some v → RO c w (G i j) x v) →
      (∀ i j, ¬ G i j b) → (∀ i j i' j' k, G i j k → G i' j' k → i = i' ∧ j = j') → (∀ i j k, G i j k → (elt es i j).isSome = true) →
      (∀ k, F k ↔ k = b ∨ ∃ i j, G i j k) → (0 < cap → A = some ⟨b, 0, none⟩) → RO c w F (.row true sz es) (.slice A es.length cap)

/-- A row of the call's own, in a block, with all blocks that it owns. -/
def RowB (c : Ctx) (w : World) (p : Bool) (b cap sz : Nat) (es : List (List AV)) (F : Nat → Prop) : Prop :=
  ∃ (C : Array Value) (e : TypeId) (fz : Nat × Nat) (G : Nat → Nat → Nat → Prop),
      w.heap[b]? = some (.cells C e fz) ∧ Unfz sz C fz ∧ es.length ≤ cap ∧ cap ≤ maxLen ∧ C.size = cap * sz ∧ (∀ e ∈ es, e.length = sz) ∧
      (∀ (i j : Nat) (x : AV) (v : Value), elt es i j = some x → C[i * sz + j]? = some v → v.oneCell' = true) ∧
      (∀ (i j : Nat) (x : AV) (v : Value), elt es i j = some x → C[i * sz + j]? = some v → RO c w (G i j) x v ∨ (p = false ∧ (∀ k, ¬ G i j k) ∧ R c w x v ∧ x.isCell = false)) ∧
      (∀ i j, ¬ G i j b) ∧ (∀ i j i' j' k, G i j k → G i' j' k → i = i' ∧ j = j') ∧ (∀ i j k, G i j k → (elt es i j).isSome = true) ∧
      (∀ k, F k ↔ k = b ∨ ∃ i j, G i j k)

theorem RowB.own {c : Ctx} {w : World} {b cap sz : Nat} {es : List (List AV)} {F : Nat → Prop} (h : RowB c w true b cap sz es F) {A : Option Addr} (hA : 0 < cap → A = some ⟨b, 0, none⟩) : RO c w F (.row true sz es) (.slice A es.length cap) :=
  let ⟨C, e, fz, G, a1, a2, a3, a4, a5, a6, a7, a8, a9, a10, a11, a12⟩ := h
  .own b C e fz G a1 a2 a3 a4 a5 a6 a7 (fun i j x v hx hv => (a8 i j x v hx hv).resolve_right (by simp)) a9 a10 a11 a12 hA

theorem RO.inv {c : Ctx} {w : World} {F : Nat → Prop} {sz : Nat} {es : List (List AV)} {v : Value} (h : RO c w F (.row true sz es) v) :
    (es = [] ∧ v = .slice none 0 0 ∧ ∀ k, ¬ F k) ∨ ∃ b cap A, v = .slice A es.length cap ∧ (0 < cap → A = some ⟨b, 0, none⟩) ∧ RowB c w true b cap sz es F := by
  cases h with
  | plain h _ => simp [AV.isData] at h
  | nil h => exact .inl ⟨rfl, rfl, h⟩
  | own b C e fz G a1 a2 a3 a4 a5 a6 a7 a8 a9 a10 a11 a12 a13 => exact .inr ⟨b, _, _, rfl, a13, C, e, fz, G, a1, a2, a3, a4, a5, a6, a7, fun i j x v hx hv => .inl (a8 i j x v hx hv), a9, a10, a11, a12⟩

theorem RO.mono {c c' : Ctx} {w w' : World} (h1 : ∀ s i, c.at_ s = some i → c'.at_ s = some i) (h2 : ∀ b, c.I b → c'.I b) (h3 : ∀ b, c.I b → w'.heap[b]? = w.heap[b]?) {F : Nat → Prop} {x : AV} {v : Value} (h : RO c w F x v) :
    (∀ b, F b → w'.heap[b]? = w.heap[b]?) → RO c' w' F x v := by
  induction h with
  | plain a1 a2 a3 => exact fun _ => .plain a1 (a2.mono h1 h2 h3) a3
  | nil a => exact fun _ => .nil a
  | @own F sz es cap A b C e fz G a1 a2 a3 a4 a5 a6 a7 a8 a9 a10 a11 a12 a13 ih =>
    intro hF
    exact .own b C e fz G ((hF b ((a12 b).2 (.inl rfl))).trans a1) a2 a3 a4 a5 a6 a7 (fun i j x v hx hv => ih i j x v hx hv fun k hk => hF k ((a12 k).2 (.inr ⟨i, j, hk⟩))) a9 a10 a11 a12 a13

theorem RowB.mono {c c' : Ctx} {w w' : World} (h1 : ∀ s i, c.at_ s = some i → c'.at_ s = some i) (h2 : ∀ b, c.I b → c'.I b) (h3 : ∀ b, c.I b → w'.heap[b]? = w.heap[b]?) {p : Bool} {b cap sz : Nat} {es : List (List AV)} {F : Nat → Prop} (h : RowB c w p b cap sz es F)
    (hF : ∀ b, F b → w'.heap[b]? = w.heap[b]?) : RowB c' w' p b cap sz es F :=
  let ⟨C, e, fz, G, a1, a2, a3, a4, a5, a6, a7, a8, a9, a10, a11, a12⟩ := h
  ⟨C, e, fz, G, (hF b ((a12 b).2 (.inl rfl))).trans a1, a2, a3, a4, a5, a6, a7, fun i j x v hx hv => (a8 i j x v hx hv).imp (fun h => h.mono h1 h2 h3 fun k hk => hF k ((a12 k).2 (.inr ⟨i, j, hk⟩))) (fun h => ⟨h.1, h.2.1, h.2.2.1.mono h1 h2 h3, h.2.2.2⟩), a9, a10, a11, a12⟩

theorem elt_lt {es : List (List AV)} {sz : Nat} (h : ∀ e ∈ es, e.length = sz) {i j : Nat} {x : AV} (hx : elt es i j = some x) : i < es.length ∧ j < sz := by
  unfold elt at hx
  cases he : es[i]? with
  | none => simp [he] at hx
  | some e =>
    obtain ⟨hi, rfl⟩ := List.getElem?_eq_some_iff.1 he
    simp [he] at hx
    have := h _ (List.getElem_mem hi)
    exact ⟨hi, by have := (List.getElem?_eq_some_iff.1 hx).1; omega⟩

theorem fit_lt {n i j sz cap : Nat} (hi : i < n) (hj : j < sz) (hn : n ≤ cap) : i * sz + j < cap * sz := by
  have : (i + 1) * sz ≤ cap * sz := Nat.mul_le_mul_right _ (by omega)
  rw [Nat.add_mul] at this; omega

theorem RO.isCell {c : Ctx} {w : World} {F : Nat → Prop} {x : AV} {v : Value} (h : RO c w F x v) : x.isCell = true := by
  cases h with
  | plain a => cases x <;> simp_all [AV.isData, AV.isCell]
  | nil => rfl
  | own => rfl

/-- What is owned is read, where all blocks that are owned are not written. -/
theorem RO.read {c : Ctx} {w : World} {F : Nat → Prop} {x : AV} {v : Value} (h : RO c w F x v) : (∀ k, F k → c.I k) → R c w x v := by
  induction h with
  | plain a1 a2 a3 => exact fun _ => a2
  | nil a => exact fun _ => .row 0 0 (fun _ _ => default) (Nat.le_refl _) (by simp [maxLen]) (by simp) (by simp) (by simp [elt]) (by simp [elt]) (by simp [elt]) (by simp [elt])
  | @own F sz es cap A b C e fz G a1 a2 a3 a4 a5 a6 a7 a8 a9 a10 a11 a12 a13 ih =>
    intro hF
    have hc : ∀ i j x, elt es i j = some x → ∃ v, C[i * sz + j]? = some v := fun i j x hx => by
      obtain ⟨hi, hj⟩ := elt_lt a6 hx
      have := fit_lt hi hj a3
      exact ⟨C[i * sz + j]'(by omega), by simp⟩
    refine .row b 0 (fun i j => (C[i * sz + j]?).getD default) a3 a4 (fun h => ⟨a13 (by omega), hF b ((a12 b).2 (.inl rfl))⟩) a6 (fun i j x hx => ?_) (fun i j x hx => ?_) (fun i j x hx => ?_) (fun i j x hx => ?_)
    · obtain ⟨v, hv⟩ := hc i j x hx
      exact (a8 i j x v hx hv).isCell
    · obtain ⟨v, hv⟩ := hc i j x hx
      simp only [World.cell?, a1, Option.isSome_none, Bool.false_eq_true, if_false, Nat.zero_add, hv, Option.getD_some]
    · obtain ⟨v, hv⟩ := hc i j x hx
      simp only [hv, Option.getD_some]
      exact a7 i j x v hx hv
    · obtain ⟨v, hv⟩ := hc i j x hx
      simp only [hv, Option.getD_some]
      exact ih i j x v hx hv fun k hk => hF k ((a12 k).2 (.inr ⟨i, j, hk⟩))

/-- Cells side by side. -/
def RL (c : Ctx) (w : World) : List AV → List Value → Prop
  | [], [] => True
  | x :: xs, v :: vs => (R c w x v ∧ v.oneCell' = true) ∧ RL c w xs vs
  | _, _ => False

def RTs (c : Ctx) (w : World) : List (Bool × List AV) → List Value → Prop
  | [], [] => True
  | (false, [x]) :: xs, v :: vs => (R c w x v ∧ v.oneCell' = true) ∧ RTs c w xs vs
  | (true, ys) :: xs, .agg us :: vs => RL c w ys us.toList ∧ RTs c w xs vs
  | _, _ => False

def RT (c : Ctx) (w : World) : T → Value → Prop
  | .dead, _ => True
  | .one x, v => R c w x v ∧ v.oneCell' = true
  | .agg xs, .agg vs => RL c w xs vs.toList
  | .tup ts, .tuple vs => RTs c w ts vs.toList
  | _, _ => False

section
variable {c c' : Ctx} {w w' : World} (h1 : ∀ s i, c.at_ s = some i → c'.at_ s = some i) (h2 : ∀ b, c.I b → c'.I b) (h3 : ∀ b, c.I b → w'.heap[b]? = w.heap[b]?)
include h1 h2 h3
theorem RL.mono : ∀ {xs : List AV} {vs : List Value}, RL c w xs vs → RL c' w' xs vs
  | [], [], _ => trivial
  | _ :: _, _ :: _, h => ⟨⟨h.1.1.mono h1 h2 h3, h.1.2⟩, RL.mono h.2⟩
theorem RTs.mono : ∀ {xs : List (Bool × List AV)} {vs : List Value}, RTs c w xs vs → RTs c' w' xs vs
  | [], [], _ => trivial
  | (false, [x]) :: _, _ :: _, h => ⟨⟨h.1.1.mono h1 h2 h3, h.1.2⟩, RTs.mono h.2⟩
  | (true, _) :: _, .agg _ :: _, h => ⟨RL.mono h1 h2 h3 h.1, RTs.mono h.2⟩
theorem RT.mono {t : T} {v : Value} (h : RT c w t v) : RT c' w' t v := by
  cases t with
  | dead => exact trivial
  | one x => exact ⟨h.1.mono h1 h2 h3, h.2⟩
  | agg xs => cases v <;> first | exact h.elim | exact RL.mono h1 h2 h3 h
  | tup ts => cases v <;> first | exact h.elim | exact RTs.mono h1 h2 h3 h
end

theorem RL.length : ∀ {c : Ctx} {w : World} {xs : List AV} {vs : List Value}, RL c w xs vs → xs.length = vs.length
  | _, _, [], [], _ => rfl
  | _, _, _ :: _, _ :: _, h => by simp [RL.length h.2]
theorem RL.at : ∀ {c : Ctx} {w : World} {xs : List AV} {vs : List Value}, RL c w xs vs → ∀ {i : Nat} {x : AV} {v : Value}, xs[i]? = some x → vs[i]? = some v → R c w x v ∧ v.oneCell' = true
  | _, _, [], [], _, i, x, v, hx, _ => by simp at hx
  | _, _, _ :: _, _ :: _, h, 0, x, v, hx, hv => by simp at hx hv; subst hx hv; exact h.1
  | _, _, _ :: _, _ :: _, h, i + 1, x, v, hx, hv => RL.at h.2 (by simpa using hx) (by simpa using hv)
theorem RL.of : ∀ {c : Ctx} {w : World} {xs : List AV} {vs : List Value}, xs.length = vs.length → (∀ (i : Nat) (x : AV) (v : Value), xs[i]? = some x → vs[i]? = some v → R c w x v ∧ v.oneCell' = true) → RL c w xs vs
  | _, _, [], [], _, _ => trivial
  | _, _, x :: xs, v :: vs, hl, h => ⟨h 0 x v rfl rfl, RL.of (by simpa using hl) fun i y u hy hu => h (i + 1) y u (by simpa using hy) (by simpa using hu)⟩
theorem RL.map_bor {c : Ctx} {w : World} {xs : List AV} {vs : List Value} (h : RL c w xs vs) : RL c w (xs.map AV.bor) vs := by
  refine RL.of (by simpa using h.length) fun i x v hx hv => ?_
  rw [List.getElem?_map] at hx
  cases hy : xs[i]? with
  | none => simp [hy] at hx
  | some y => simp [hy] at hx; subst hx; exact ⟨(h.at hy hv).1.bor, (h.at hy hv).2⟩
theorem RL.drop {c : Ctx} {w : World} {xs : List AV} {vs : List Value} (h : RL c w xs vs) (n : Nat) : RL c w (xs.drop n) (vs.drop n) :=
  RL.of (by simp [h.length]) fun i x v hx hv => h.at (i := n + i) (by simpa using hx) (by simpa using hv)
theorem RL.take {c : Ctx} {w : World} {xs : List AV} {vs : List Value} (h : RL c w xs vs) (n : Nat) : RL c w (xs.take n) (vs.take n) :=
  RL.of (by simp [h.length]) fun i x v hx hv => by
    rw [List.getElem?_take] at hx hv
    split at hx
    · rename_i hi; rw [if_pos hi] at hv; exact h.at hx hv
    · cases hx

/-- What lies at a place of the call's own. -/
inductive Blk where
  | var (xs : List AV)
  | row (p : Bool) (sz : Nat) (es : List (List AV))
  | par (v : Value) (x : AV)
  | pin (s : Nat) (i : SI)
/-- It is no new place. -/
def Blk.isPar : Blk → Bool
  | .par _ _ => true
  | .pin _ _ => true
  | _ => false

structure AS where
  tm : Nat → T
  mem : Nat → Option Blk

def Ctx.top (c : Ctx) (s b : Nat) : Prop := c.at_ s = some (.var b) ∨ ∃ cap sz, c.at_ s = some (.row b cap sz)

def BlkOk (c : Ctx) (w : World) (F : Nat → Prop) (s : Nat) : Blk → Prop
  | .var xs => ∃ b C e fz, c.at_ s = some (.var b) ∧ w.heap[b]? = some (.cells C e fz) ∧ Unfz 1 C fz ∧ RL c w xs C.toList ∧ ∀ k, F k ↔ k = b
  | .row p sz es => (c.at_ s = some .nil ∧ es = [] ∧ ∀ k, ¬ F k) ∨ ∃ b cap, c.at_ s = some (.row b cap sz) ∧ RowB c w p b cap sz es F
  | .par v x => c.at_ s = some .nil ∧ ∀ k, ¬ F k
  | .pin s' i => c.at_ s = some .nil ∧ (∀ k, ¬ F k) ∧ c.at_ s' = some i

/-- Old memory is as it was, but for what was lent. -/
structure Keeps (L : Nat → Prop) (w w' : World) : Prop where
  os : w'.os = w.os
  tape : w'.tape = w.tape
  output : w'.output = w.output
  size : w.heap.size ≤ w'.heap.size
  block : ∀ k, k < w.heap.size → ¬ L k → w'.heap[k]? = w.heap[k]?

/-- Blocks that were there, and were not lent: nobody writes them. -/
def oldB (w0 : World) (L : Nat → Prop) : Nat → Prop := fun k => k < w0.heap.size ∧ ¬ L k
/-- The abstract state holds. w0: the world when the call began; L: the blocks that were lent; n: how many temporaries. -/
structure H (w0 : World) (L : Nat → Prop) (n : Nat) (σ : AS) (a : Act) (w : World) (c : Ctx) (F : Nat → Nat → Prop) : Prop where
  keeps : Keeps L w0 w
  size : a.tmps.size = n
  defers : a.defers = []
  tm : ∀ t, RT c w (σ.tm t) (a.tmps.getD t undef)
  mem : ∀ s k, σ.mem s = some k → BlkOk c w (F s) s k
  dom : ∀ s, σ.mem s = none → c.at_ s = none ∧ ∀ k, ¬ F s k
  disj : ∀ s s' k, F s k → F s' k → s = s'
  new : ∀ s k, F s k → (w0.heap.size ≤ k ∨ L k) ∧ k < w.heap.size
  imm : ∀ k, c.I k → k < w.heap.size
  inn : ∀ s k, F s k → (c.I k ↔ ¬ c.top s k)
  par : ∀ s v x, σ.mem s = some (.par v x) → x.isFree = true ∧ R ⟨fun _ => none, oldB w0 L⟩ w0 x v

def Holds (w0 : World) (L : Nat → Prop) (n : Nat) (σ : AS) (a : Act) (w : World) : Prop := ∃ c F, H w0 L n σ a w c F
end Go.Proofs.Ytlijeincckbdaaa
