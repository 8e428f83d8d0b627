/- An abstract machine for Go functions over data in memory: abstract values, and what it means that a world holds them. No program is in sight here. -/
import Derived.WalkKit
import Derived.Orders
import Derived.Maps.AppendAt
import Derived.Lib.SliceRun
import Derived.Laws.Cover3
import Derived.Lib.ConvBytes
import Derived.Laws.IdiomStrings
import Derived.Laws.BytesString
namespace Go.Proofs.Ytlijeincckbdaaa
open Go.RowKit
set_option linter.unusedSimpArgs false
set_option linter.unusedVariables false

/-- An abstract value of one cell. -/
inductive AV where
  | dead
  | lit (v : Value)
  | ptr (s j : Nat)
  | eptr (s i j : Nat)
  | loc (s off len : Nat)
  | row (own : Bool) (sz : Nat) (es : List (List AV))
  | bptr (xs : List AV) (j : Nat)
  | fn (f : FuncId) (caps : List AV)
  | nn (sz : Nat) (es : List (List AV))
  deriving Inhabited

/-- What a temporary holds. -/
inductive T where
  | dead
  | one (x : AV)
  | agg (xs : List AV)
  | tup (ts : List (Bool × List AV))
  deriving Inhabited

inductive SI where
  | var (b : Nat)
  | row (b cap sz : Nat)
  | nil

structure Ctx where
  at_ : Nat → Option SI
  I : Nat → Prop

def elt (es : List (List AV)) (i j : Nat) : Option AV := (es[i]?).bind (·[j]?)

/-- Plain data: no place of the call's own, nothing that is owned. -/
def AV.isData : AV → Bool
  | .lit _ => true
  | .row own _ _ => !own
  | _ => false
/-- It speaks of no place of the call's own. -/
def AV.isFree : AV → Bool
  | .lit _ | .row _ _ _ | .bptr _ _ | .dead | .nn _ _ => true
  | _ => false
def AV.isCell : AV → Bool
  | .lit _ | .row _ _ _ => true
  | _ => false
def AV.bor : AV → AV
  | .row _ sz es => .row false sz es
  | .nn sz es => .row false sz es
  | x => x

/-- A value of one cell reads as this. -/
inductive R (c : Ctx) (w : World) : AV → Value → Prop where
  | dead (v : Value) : R c w .dead v
  | lit (v : Value) : R c w (.lit v) v
  | ptr {s j b : Nat} : c.at_ s = some (.var b) → R c w (.ptr s j) (.pointer (some ⟨b, j, none⟩))
  | eptr {s i j b cap sz : Nat} : c.at_ s = some (.row b cap sz) → R c w (.eptr s i j) (.pointer (some ⟨b, i * sz + j, none⟩))
  | loc {s off len b cap sz : Nat} {A : Option Addr} : c.at_ s = some (.row b cap sz) → off + len ≤ cap → (off < cap → A = some ⟨b, off * sz, none⟩) → R c w (.loc s off len) (.slice A len (cap - off))
  | locnil {s : Nat} : c.at_ s = some .nil → R c w (.loc s 0 0) (.slice none 0 0)
  | row {own : Bool} {sz : Nat} {es : List (List AV)} {A : Option Addr} {cap : Nat} (b o : Nat) (vals : Nat → Nat → Value) :
      es.length ≤ cap → cap ≤ maxLen → (0 < es.length → A = some ⟨b, o, none⟩ ∧ c.I b) → (∀ e ∈ es, e.length = sz) → (∀ (i j : Nat) (x : AV), elt es i j = some x → x.isCell = true) →
      (∀ (i j : Nat) (x : AV), elt es i j = some x → w.cell? ⟨b, o + i * sz + j, none⟩ = some (vals i j)) →
      (∀ (i j : Nat) (x : AV), elt es i j = some x → (vals i j).oneCell' = true) →
      (∀ (i j : Nat) (x : AV), elt es i j = some x → R c w x (vals i j)) → R c w (.row own sz es) (.slice A es.length cap)
  | bptr {xs : List AV} {j : Nat} (b o : Nat) (vals : Nat → Value) : c.I b → (∀ (k : Nat) (x : AV), xs[k]? = some x → x.isFree = true) →
      (∀ (k : Nat) (x : AV), xs[k]? = some x → w.cell? ⟨b, o + k, none⟩ = some (vals k)) →
      (∀ (k : Nat) (x : AV), xs[k]? = some x → (vals k).oneCell' = true) →
      (∀ (k : Nat) (x : AV), xs[k]? = some x → R c w x (vals k)) → R c w (.bptr xs j) (.pointer (some ⟨b, o + j, none⟩))
  | fn {f : FuncId} {caps : List AV} {cs : Array Value} : cs.size = caps.length → (∀ v ∈ cs.toList, v.oneCell' = true) → (∀ (k : Nat) (x : AV) (v : Value), caps[k]? = some x → cs[k]? = some v → R c w x v) →
      R c w (.fn f caps) (.func (.func f) #[] cs)
  | nn {sz : Nat} {es : List (List AV)} {A : Addr} {n cap : Nat} : R c w (.row false sz es) (.slice (some A) n cap) → R c w (.nn sz es) (.slice (some A) n cap)

theorem cell?_same {w w' : World} {b o : Nat} (h : w'.heap[b]? = w.heap[b]?) : w'.cell? ⟨b, o, none⟩ = w.cell? ⟨b, o, none⟩ := World.cell?_of_block (a := ⟨b, o, none⟩) h

/-- What is read stays, while the blocks that are not written stay and the places keep their blocks. -/
theorem R.mono {c c' : Ctx} {w w' : World} (h1 : ∀ s i, c.at_ s = some i → c'.at_ s = some i) (h2 : ∀ b, c.I b → c'.I b) (h3 : ∀ b, c.I b → w'.heap[b]? = w.heap[b]?) {x : AV} {v : Value} (h : R c w x v) : R c' w' x v := by
  induction h with
  | dead v => exact .dead v
  | lit v => exact .lit v
  | ptr h => exact .ptr (h1 _ _ h)
  | eptr h => exact .eptr (h1 _ _ h)
  | loc h a b => exact .loc (h1 _ _ h) a b
  | locnil h => exact .locnil (h1 _ _ h)
  | @row own sz es A cap b o vals a1 a2 a3 a4 a0 a5 a6 a7 ih =>
    refine .row b o vals a1 a2 (fun h => ⟨(a3 h).1, h2 _ (a3 h).2⟩) a4 a0 (fun i j x hx => ?_) a6 ih
    have hl : 0 < es.length := by
      unfold elt at hx
      cases es with
      | nil => simp at hx
      | cons e es => simp
    rw [cell?_same (h3 b (a3 hl).2)]
    exact a5 i j x hx
  | @bptr xs j b o vals a1 a0 a2 a3 a4 ih => exact .bptr b o vals (h2 _ a1) a0 (fun k x hx => by rw [cell?_same (h3 b a1)]; exact a2 k x hx) a3 ih
  | fn a1 a0 a2 ih => exact .fn a1 a0 ih
  | nn h ih => exact .nn ih

theorem bor_cell {x : AV} (h : x.bor.isCell = true) : x.bor.isData = true := by cases x <;> first | rfl | simp [AV.bor, AV.isCell] at h
theorem R.bor {c : Ctx} {w : World} {x : AV} {v : Value} (h : R c w x v) : R c w x.bor v := by
  cases h with
  | row b o vals a1 a2 a3 a4 a5 a6 a7 a8 => exact .row b o vals a1 a2 a3 a4 a5 a6 a7 a8
  | dead v => exact .dead v
  | lit v => exact .lit v
  | ptr h => exact .ptr h
  | eptr h => exact .eptr h
  | loc h a b => exact .loc h a b
  | locnil h => exact .locnil h
  | bptr b o vals a1 a2 a3 a4 a5 => exact .bptr b o vals a1 a2 a3 a4 a5
  | fn a1 a0 a2 => exact .fn a1 a0 a2
  | nn h => exact h

/-- What speaks of no place of the call's own is read alike in every context. -/
theorem R.free {c c' : Ctx} {w w' : World} (h2 : ∀ b, c.I b → c'.I b) (h3 : ∀ b, c.I b → w'.heap[b]? = w.heap[b]?) {x : AV} {v : Value} (h : R c w x v) : x.isFree = true → R c' w' x v := by
  induction h with
  | dead v => exact fun _ => .dead v
  | lit v => exact fun _ => .lit v
  | ptr h => exact fun h => by simp [AV.isFree] at h
  | eptr h => exact fun h => by simp [AV.isFree] at h
  | loc h a b => exact fun h => by simp [AV.isFree] at h
  | locnil h => exact fun h => by simp [AV.isFree] at h
  | @row own sz es A cap b o vals a1 a2 a3 a4 a0 a5 a6 a7 ih =>
    intro _
    refine .row b o vals a1 a2 (fun h => ⟨(a3 h).1, h2 _ (a3 h).2⟩) a4 a0 (fun i j x hx => ?_) a6 (fun i j x hx => ih i j x hx ?_)
    · have hl : 0 < es.length := by
        unfold elt at hx
        cases es with
        | nil => simp at hx
        | cons e es => simp
      rw [cell?_same (h3 b (a3 hl).2)]
      exact a5 i j x hx
    · have := a0 i j x hx
      cases x <;> simp_all [AV.isCell, AV.isFree]
  | @bptr xs j b o vals a1 a0 a2 a3 a4 ih =>
    exact fun _ => .bptr b o vals (h2 _ a1) a0 (fun k x hx => by rw [cell?_same (h3 b a1)]; exact a2 k x hx) a3 (fun k x hx => ih k x hx (a0 k x hx))
  | fn a1 a0 a2 ih => exact fun h => by simp [AV.isFree] at h
  | nn h ih => exact fun _ => .nn (ih rfl)

/-- No cell of a row is frozen. -/
def pad (sz : Nat) : Nat := if sz = 1 then 0 else 1
/-- .. nor, where its elements have more than one cell, the cell behind them. -/
def Unfz (sz : Nat) (C : Array Value) (fz : Nat × Nat) : Prop := ∀ i, i < C.size + pad sz → ¬ (fz.1 ≤ i ∧ i < fz.2)

/-- A value of one cell, with the blocks that it owns. -/
inductive RO (c : Ctx) (w : World) : (Nat → Prop) → AV → Value → Prop where
  | plain {F : Nat → Prop} {x : AV} {v : Value} : x.isData = true → R c w x v → (∀ k, ¬ F k) → RO c w F x v
  | nil {F : Nat → Prop} {sz : Nat} : (∀ k, ¬ F k) → RO c w F (.row true sz []) (.slice none 0 0)
  | own {F : Nat → Prop} {sz : Nat} {es : List (List AV)} {cap : Nat} {A : Option Addr} (b : Nat) (C : Array Value) (e : TypeId) (fz : Nat × Nat) (G : Nat → Nat → Nat → Prop) :
      w.heap[b]? = some (.cells C e fz) → Unfz sz C fz → es.length ≤ cap → cap ≤ maxLen → C.size = cap * sz → (∀ e ∈ es, e.length = sz) →
      (∀ (i j : Nat) (x : AV) (v : Value), elt es i j = some x → C[i * sz + j]? = some v → v.oneCell' = true) →
      (∀ (i j : Nat) (x : AV) (v : Value), elt es i j = some x → C[i * sz + j]? = some v → RO c w (G i j) x v) →
      (∀ i j, ¬ G i j b) → (∀ i j i' j' k, G i j k → G i' j' k → i = i' ∧ j = j') → (∀ i j k, G i j k → (elt es i j).isSome = true) →
      (∀ k, F k ↔ k = b ∨ ∃ i j, G i j k) → (0 < cap → A = some ⟨b, 0, none⟩) → RO c w F (.row true sz es) (.slice A es.length cap)

/-- A row of the call's own, in a block, with all blocks that it owns. -/
def RowB (c : Ctx) (w : World) (p : Bool) (b cap sz : Nat) (es : List (List AV)) (F : Nat → Prop) : Prop :=
  ∃ (C : Array Value) (e : TypeId) (fz : Nat × Nat) (G : Nat → Nat → Nat → Prop),
      w.heap[b]? = some (.cells C e fz) ∧ Unfz sz C fz ∧ es.length ≤ cap ∧ cap ≤ maxLen ∧ C.size = cap * sz ∧ (∀ e ∈ es, e.length = sz) ∧
      (∀ (i j : Nat) (x : AV) (v : Value), elt es i j = some x → C[i * sz + j]? = some v → v.oneCell' = true) ∧
      (∀ (i j : Nat) (x : AV) (v : Value), elt es i j = some x → C[i * sz + j]? = some v → RO c w (G i j) x v ∨ (p = false ∧ (∀ k, ¬ G i j k) ∧ R c w x v ∧ x.isCell = false)) ∧
      (∀ i j, ¬ G i j b) ∧ (∀ i j i' j' k, G i j k → G i' j' k → i = i' ∧ j = j') ∧ (∀ i j k, G i j k → (elt es i j).isSome = true) ∧
      (∀ k, F k ↔ k = b ∨ ∃ i j, G i j k)

theorem RowB.own {c : Ctx} {w : World} {b cap sz : Nat} {es : List (List AV)} {F : Nat → Prop} (h : RowB c w true b cap sz es F) {A : Option Addr} (hA : 0 < cap → A = some ⟨b, 0, none⟩) : RO c w F (.row true sz es) (.slice A es.length cap) :=
  let ⟨C, e, fz, G, a1, a2, a3, a4, a5, a6, a7, a8, a9, a10, a11, a12⟩ := h
  .own b C e fz G a1 a2 a3 a4 a5 a6 a7 (fun i j x v hx hv => (a8 i j x v hx hv).resolve_right (by simp)) a9 a10 a11 a12 hA

theorem RO.inv {c : Ctx} {w : World} {F : Nat → Prop} {sz : Nat} {es : List (List AV)} {v : Value} (h : RO c w F (.row true sz es) v) :
    (es = [] ∧ v = .slice none 0 0 ∧ ∀ k, ¬ F k) ∨ ∃ b cap A, v = .slice A es.length cap ∧ (0 < cap → A = some ⟨b, 0, none⟩) ∧ RowB c w true b cap sz es F := by
  cases h with
  | plain h _ => simp [AV.isData] at h
  | nil h => exact .inl ⟨rfl, rfl, h⟩
  | own b C e fz G a1 a2 a3 a4 a5 a6 a7 a8 a9 a10 a11 a12 a13 => exact .inr ⟨b, _, _, rfl, a13, C, e, fz, G, a1, a2, a3, a4, a5, a6, a7, fun i j x v hx hv => .inl (a8 i j x v hx hv), a9, a10, a11, a12⟩

theorem RO.mono {c c' : Ctx} {w w' : World} (h1 : ∀ s i, c.at_ s = some i → c'.at_ s = some i) (h2 : ∀ b, c.I b → c'.I b) (h3 : ∀ b, c.I b → w'.heap[b]? = w.heap[b]?) {F : Nat → Prop} {x : AV} {v : Value} (h : RO c w F x v) :
    (∀ b, F b → w'.heap[b]? = w.heap[b]?) → RO c' w' F x v := by
  induction h with
  | plain a1 a2 a3 => exact fun _ => .plain a1 (a2.mono h1 h2 h3) a3
  | nil a => exact fun _ => .nil a
  | @own F sz es cap A b C e fz G a1 a2 a3 a4 a5 a6 a7 a8 a9 a10 a11 a12 a13 ih =>
    intro hF
    exact .own b C e fz G ((hF b ((a12 b).2 (.inl rfl))).trans a1) a2 a3 a4 a5 a6 a7 (fun i j x v hx hv => ih i j x v hx hv fun k hk => hF k ((a12 k).2 (.inr ⟨i, j, hk⟩))) a9 a10 a11 a12 a13

theorem RowB.mono {c c' : Ctx} {w w' : World} (h1 : ∀ s i, c.at_ s = some i → c'.at_ s = some i) (h2 : ∀ b, c.I b → c'.I b) (h3 : ∀ b, c.I b → w'.heap[b]? = w.heap[b]?) {p : Bool} {b cap sz : Nat} {es : List (List AV)} {F : Nat → Prop} (h : RowB c w p b cap sz es F)
    (hF : ∀ b, F b → w'.heap[b]? = w.heap[b]?) : RowB c' w' p b cap sz es F :=
  let ⟨C, e, fz, G, a1, a2, a3, a4, a5, a6, a7, a8, a9, a10, a11, a12⟩ := h
  ⟨C, e, fz, G, (hF b ((a12 b).2 (.inl rfl))).trans a1, a2, a3, a4, a5, a6, a7, fun i j x v hx hv => (a8 i j x v hx hv).imp (fun h => h.mono h1 h2 h3 fun k hk => hF k ((a12 k).2 (.inr ⟨i, j, hk⟩))) (fun h => ⟨h.1, h.2.1, h.2.2.1.mono h1 h2 h3, h.2.2.2⟩), a9, a10, a11, a12⟩

theorem elt_lt {es : List (List AV)} {sz : Nat} (h : ∀ e ∈ es, e.length = sz) {i j : Nat} {x : AV} (hx : elt es i j = some x) : i < es.length ∧ j < sz := by
  unfold elt at hx
  cases he : es[i]? with
  | none => simp [he] at hx
  | some e =>
    obtain ⟨hi, rfl⟩ := List.getElem?_eq_some_iff.1 he
    simp [he] at hx
    have := h _ (List.getElem_mem hi)
    exact ⟨hi, by have := (List.getElem?_eq_some_iff.1 hx).1; omega⟩

theorem fit_lt {n i j sz cap : Nat} (hi : i < n) (hj : j < sz) (hn : n ≤ cap) : i * sz + j < cap * sz := by
  have : (i + 1) * sz ≤ cap * sz := Nat.mul_le_mul_right _ (by omega)
  rw [Nat.add_mul] at this; omega

theorem RO.isCell {c : Ctx} {w : World} {F : Nat → Prop} {x : AV} {v : Value} (h : RO c w F x v) : x.isCell = true := by
  cases h with
  | plain a => cases x <;> simp_all [AV.isData, AV.isCell]
  | nil => rfl
  | own => rfl

/-- What is owned is read, where all blocks that are owned are not written. -/
theorem RO.read {c : Ctx} {w : World} {F : Nat → Prop} {x : AV} {v : Value} (h : RO c w F x v) : (∀ k, F k → c.I k) → R c w x v := by
  induction h with
  | plain a1 a2 a3 => exact fun _ => a2
  | nil a => exact fun _ => .row 0 0 (fun _ _ => default) (Nat.le_refl _) (by simp [maxLen]) (by simp) (by simp) (by simp [elt]) (by simp [elt]) (by simp [elt]) (by simp [elt])
  | @own F sz es cap A b C e fz G a1 a2 a3 a4 a5 a6 a7 a8 a9 a10 a11 a12 a13 ih =>
    intro hF
    have hc : ∀ i j x, elt es i j = some x → ∃ v, C[i * sz + j]? = some v := fun i j x hx => by
      obtain ⟨hi, hj⟩ := elt_lt a6 hx
      have := fit_lt hi hj a3
      exact ⟨C[i * sz + j]'(by omega), by simp⟩
    refine .row b 0 (fun i j => (C[i * sz + j]?).getD default) a3 a4 (fun h => ⟨a13 (by omega), hF b ((a12 b).2 (.inl rfl))⟩) a6 (fun i j x hx => ?_) (fun i j x hx => ?_) (fun i j x hx => ?_) (fun i j x hx => ?_)
    · obtain ⟨v, hv⟩ := hc i j x hx
      exact (a8 i j x v hx hv).isCell
    · obtain ⟨v, hv⟩ := hc i j x hx
      simp only [World.cell?, a1, Option.isSome_none, Bool.false_eq_true, if_false, Nat.zero_add, hv, Option.getD_some]
    · obtain ⟨v, hv⟩ := hc i j x hx
      simp only [hv, Option.getD_some]
      exact a7 i j x v hx hv
    · obtain ⟨v, hv⟩ := hc i j x hx
      simp only [hv, Option.getD_some]
      exact ih i j x v hx hv fun k hk => hF k ((a12 k).2 (.inr ⟨i, j, hk⟩))

/-- Cells side by side. -/
def RL (c : Ctx) (w : World) : List AV → List Value → Prop
  | [], [] => True
  | x :: xs, v :: vs => (R c w x v ∧ v.oneCell' = true) ∧ RL c w xs vs
  | _, _ => False

def RTs (c : Ctx) (w : World) : List (Bool × List AV) → List Value → Prop
  | [], [] => True
  | (false, [x]) :: xs, v :: vs => (R c w x v ∧ v.oneCell' = true) ∧ RTs c w xs vs
  | (true, ys) :: xs, .agg us :: vs => RL c w ys us.toList ∧ RTs c w xs vs
  | _, _ => False

def RT (c : Ctx) (w : World) : T → Value → Prop
  | .dead, _ => True
  | .one x, v => R c w x v ∧ v.oneCell' = true
  | .agg xs, .agg vs => RL c w xs vs.toList
  | .tup ts, .tuple vs => RTs c w ts vs.toList
  | _, _ => False

section
variable {c c' : Ctx} {w w' : World} (h1 : ∀ s i, c.at_ s = some i → c'.at_ s = some i) (h2 : ∀ b, c.I b → c'.I b) (h3 : ∀ b, c.I b → w'.heap[b]? = w.heap[b]?)
include h1 h2 h3
theorem RL.mono : ∀ {xs : List AV} {vs : List Value}, RL c w xs vs → RL c' w' xs vs
  | [], [], _ => trivial
  | _ :: _, _ :: _, h => ⟨⟨h.1.1.mono h1 h2 h3, h.1.2⟩, RL.mono h.2⟩
theorem RTs.mono : ∀ {xs : List (Bool × List AV)} {vs : List Value}, RTs c w xs vs → RTs c' w' xs vs
  | [], [], _ => trivial
  | (false, [x]) :: _, _ :: _, h => ⟨⟨h.1.1.mono h1 h2 h3, h.1.2⟩, RTs.mono h.2⟩
  | (true, _) :: _, .agg _ :: _, h => ⟨RL.mono h1 h2 h3 h.1, RTs.mono h.2⟩
theorem RT.mono {t : T} {v : Value} (h : RT c w t v) : RT c' w' t v := by
  cases t with
  | dead => exact trivial
  | one x => exact ⟨h.1.mono h1 h2 h3, h.2⟩
  | agg xs => cases v <;> first | exact h.elim | exact RL.mono h1 h2 h3 h
  | tup ts => cases v <;> first | exact h.elim | exact RTs.mono h1 h2 h3 h
end

theorem RL.length : ∀ {c : Ctx} {w : World} {xs : List AV} {vs : List Value}, RL c w xs vs → xs.length = vs.length
  | _, _, [], [], _ => rfl
  | _, _, _ :: _, _ :: _, h => by simp [RL.length h.2]
theorem RL.at : ∀ {c : Ctx} {w : World} {xs : List AV} {vs : List Value}, RL c w xs vs → ∀ {i : Nat} {x : AV} {v : Value}, xs[i]? = some x → vs[i]? = some v → R c w x v ∧ v.oneCell' = true
  | _, _, [], [], _, i, x, v, hx, _ => by simp at hx
  | _, _, _ :: _, _ :: _, h, 0, x, v, hx, hv => by simp at hx hv; subst hx hv; exact h.1
  | _, _, _ :: _, _ :: _, h, i + 1, x, v, hx, hv => RL.at h.2 (by simpa using hx) (by simpa using hv)
theorem RL.of : ∀ {c : Ctx} {w : World} {xs : List AV} {vs : List Value}, xs.length = vs.length → (∀ (i : Nat) (x : AV) (v : Value), xs[i]? = some x → vs[i]? = some v → R c w x v ∧ v.oneCell' = true) → RL c w xs vs
  | _, _, [], [], _, _ => trivial
  | _, _, x :: xs, v :: vs, hl, h => ⟨h 0 x v rfl rfl, RL.of (by simpa using hl) fun i y u hy hu => h (i + 1) y u (by simpa using hy) (by simpa using hu)⟩
theorem RL.map_bor {c : Ctx} {w : World} {xs : List AV} {vs : List Value} (h : RL c w xs vs) : RL c w (xs.map AV.bor) vs := by
  refine RL.of (by simpa using h.length) fun i x v hx hv => ?_
  rw [List.getElem?_map] at hx
  cases hy : xs[i]? with
  | none => simp [hy] at hx
  | some y => simp [hy] at hx; subst hx; exact ⟨(h.at hy hv).1.bor, (h.at hy hv).2⟩
theorem RL.drop {c : Ctx} {w : World} {xs : List AV} {vs : List Value} (h : RL c w xs vs) (n : Nat) : RL c w (xs.drop n) (vs.drop n) :=
  RL.of (by simp [h.length]) fun i x v hx hv => h.at (i := n + i) (by simpa using hx) (by simpa using hv)
theorem RL.take {c : Ctx} {w : World} {xs : List AV} {vs : List Value} (h : RL c w xs vs) (n : Nat) : RL c w (xs.take n) (vs.take n) :=
  RL.of (by simp [h.length]) fun i x v hx hv => by
    rw [List.getElem?_take] at hx hv
    split at hx
    · rename_i hi; rw [if_pos hi] at hv; exact h.at hx hv
    · cases hx

/-- What lies at a place of the call's own. -/
inductive Blk where
  | var (xs : List AV)
  | row (p : Bool) (sz : Nat) (es : List (List AV))
  | par (v : Value) (x : AV)
  | pin (s : Nat) (i : SI)
  | mapb (b : Nat) (es : List (ByteArray × Value))
/-- It is no new place. -/
def Blk.isPar : Blk → Bool
  | .par _ _ => true
  | .pin _ _ => true
  | .mapb _ _ => true
  | _ => false
def Blk.isArg : Blk → Bool
  | .par _ _ => true
  | .pin _ _ => true
  | _ => false
/-- A map's value: one cell, or cells side by side. -/
def vOk : Value → Bool
  | .agg cs => cs.toList.all (·.oneCell')
  | v => v.oneCell'

structure AS where
  tm : Nat → T
  mem : Nat → Option Blk

def Ctx.top (c : Ctx) (s b : Nat) : Prop := c.at_ s = some (.var b) ∨ ∃ cap sz, c.at_ s = some (.row b cap sz)

def BlkOk (c : Ctx) (w : World) (F : Nat → Prop) (s : Nat) : Blk → Prop
  | .var xs => ∃ b C e fz, c.at_ s = some (.var b) ∧ w.heap[b]? = some (.cells C e fz) ∧ Unfz 1 C fz ∧ RL c w xs C.toList ∧ ∀ k, F k ↔ k = b
  | .row p sz es => (c.at_ s = some .nil ∧ es = [] ∧ ∀ k, ¬ F k) ∨ ∃ b cap, c.at_ s = some (.row b cap sz) ∧ RowB c w p b cap sz es F
  | .par v x => c.at_ s = some .nil ∧ ∀ k, ¬ F k
  | .pin s' i => c.at_ s = some .nil ∧ (∀ k, ¬ F k) ∧ c.at_ s' = some i
  | .mapb b es => c.at_ s = some (.var b) ∧ (∃ (ents : Array MapEntry) (ck : Nat), w.heap[b]? = some (.map ents ck) ∧ ents.toList.map (fun e => (e.key, e.val)) = (es.map fun p => (Value.string p.1, p.2)) ∧ (es.all fun p => vOk p.2) = true) ∧ ∀ k, F k ↔ k = b

/-- Old memory is as it was, but for what was lent. -/
structure Keeps (L : Nat → Prop) (w w' : World) : Prop where
  os : w'.os = w.os
  tape : w'.tape = w.tape
  output : w'.output = w.output
  size : w.heap.size ≤ w'.heap.size
  block : ∀ k, k < w.heap.size → ¬ L k → w'.heap[k]? = w.heap[k]?
  dr : w.drawn ≤ w'.drawn
/-- Nothing below B is written; the tape is drawn from, never wound back. -/
structure Bel (B : Nat) (w w' : World) : Prop where
  os : w'.os = w.os
  tape : w'.tape = w.tape
  output : w'.output = w.output
  size : w.heap.size ≤ w'.heap.size
  block : ∀ k, k < B → w'.heap[k]? = w.heap[k]?
  dr : w.drawn ≤ w'.drawn
theorem Bel.below {B : Nat} {w w' : World} (h : Bel B w w') : Below B w w' := ⟨h.os, h.tape, h.output, h.size, h.block⟩
theorem Bel.refl (B : Nat) (w : World) : Bel B w w := ⟨rfl, rfl, rfl, Nat.le_refl _, fun _ _ => rfl, Nat.le_refl _⟩
theorem Bel.drew {B : Nat} {a w : World} (h : Bel B a w) : Bel B a w.drew := ⟨h.os, h.tape, h.output, h.size, h.block, Nat.le_succ_of_le h.dr⟩
theorem Bel.alloc {B : Nat} {a w : World} (h : Bel B a w) (hB : B ≤ w.heap.size) (o : Obj) : Bel B a (w.alloc o) :=
  let k := h.below.alloc hB o
  ⟨k.os, k.tape, k.output, k.size, k.block, h.dr⟩
theorem Bel.trans {B : Nat} {a b c : World} (h : Bel B a b) (k : Bel B b c) : Bel B a c :=
  ⟨k.os.trans h.os, k.tape.trans h.tape, k.output.trans h.output, Nat.le_trans h.size k.size, fun i hi => (k.block i hi).trans (h.block i hi), Nat.le_trans h.dr k.dr⟩

/-- Blocks that were there, and were not lent: nobody writes them. -/
def oldB (w0 : World) (L : Nat → Prop) : Nat → Prop := fun k => k < w0.heap.size ∧ ¬ L k
/-- The abstract state holds. w0: the world when the call began; L: the blocks that were lent; n: how many temporaries. -/
structure H (w0 : World) (L : Nat → Prop) (n : Nat) (σ : AS) (a : Act) (w : World) (c : Ctx) (F : Nat → Nat → Prop) : Prop where
  keeps : Keeps L w0 w
  size : a.tmps.size = n
  defers : a.defers = []
  tm : ∀ t, RT c w (σ.tm t) (a.tmps.getD t undef)
  mem : ∀ s k, σ.mem s = some k → BlkOk c w (F s) s k
  dom : ∀ s, σ.mem s = none → c.at_ s = none ∧ ∀ k, ¬ F s k
  disj : ∀ s s' k, F s k → F s' k → s = s'
  new : ∀ s k, F s k → (w0.heap.size ≤ k ∨ L k) ∧ k < w.heap.size
  imm : ∀ k, c.I k → k < w.heap.size
  inn : ∀ s k, F s k → (c.I k ↔ ¬ c.top s k)
  par : ∀ s v x, σ.mem s = some (.par v x) → x.isFree = true ∧ R ⟨fun _ => none, oldB w0 L⟩ w0 x v ∧ ∀ k, oldB w0 L k → c.I k

def Holds (w0 : World) (L : Nat → Prop) (n : Nat) (σ : AS) (a : Act) (w : World) : Prop := ∃ c F, H w0 L n σ a w c F
end Go.Proofs.Ytlijeincckbdaaa
namespace Go.Proofs.Ytlijeincckbdaaa
open Go.RowKit
set_option linter.unusedSimpArgs false
set_option linter.unusedVariables false

def AS.put (σ : AS) (d : Option Nat) (t : T) : AS :=
  match d with
  | some d => { σ with tm := fun k => if k = d then t else σ.tm k }
  | none => σ
def AS.add (σ : AS) (s : Nat) (k : Blk) : AS := { σ with mem := fun s' => if s' = s then some k else σ.mem s' }
def AS.adds (σ : AS) : List (Nat × Blk) → AS
  | [] => σ
  | (s, k) :: l => (σ.add s k).adds l

def T.ofConst : Value → T
  | .agg cs => if cs.toList.all (·.oneCell') then .agg (cs.toList.map .lit) else .dead
  | .tuple _ => .dead
  | v => .one (.lit v)
def AS.get (σ : AS) : Operand → T
  | .tmp t => σ.tm t
  | .const v => .ofConst v
  | .func f => .one (.fn f [])
  | .global _ => .dead

theorem RL.lits (c : Ctx) (w : World) : ∀ (vs : List Value), vs.all (·.oneCell') = true → RL c w (vs.map .lit) vs
  | [], _ => trivial
  | v :: vs, h => by
    simp only [List.all_cons, Bool.and_eq_true] at h
    exact ⟨⟨.lit v, h.1⟩, RL.lits c w vs h.2⟩

theorem RT.const (c : Ctx) (w : World) (v : Value) : RT c w (.ofConst v) v := by
  unfold T.ofConst
  split
  · rename_i cs
    split
    · rename_i h; exact RL.lits c w _ h
    · trivial
  · trivial
  · rename_i h1 h2
    refine ⟨.lit v, ?_⟩
    cases v <;> first | rfl | exact absurd rfl (h1 _) | exact absurd rfl (h2 _)

section
variable {w0 w : World} {L : Nat → Prop} {n : Nat} {σ : AS} {a : Act} {c : Ctx} {F : Nat → Nat → Prop}

theorem H.get (h : H w0 L n σ a w c F) (x : Operand) : RT c w (σ.get x) (a.eval x) := by
  cases x with
  | tmp t => exact h.tm t
  | const v => exact RT.const c w v
  | global g => trivial
  | func f => exact ⟨.fn (by simp) (by simp) (by simp), rfl⟩

theorem Keeps.refl (L : Nat → Prop) (w : World) : Keeps L w w := ⟨rfl, rfl, rfl, Nat.le_refl _, fun _ _ _ => rfl, Nat.le_refl _⟩

theorem RT.dead_of (c : Ctx) (w : World) (v : Value) : RT c w .dead v := trivial

theorem H.put (h : H w0 L n σ a w c F) {d : Option Nat} (hd : ∀ k, d = some k → k < n) {t : T} {v : Value} (ht : RT c w t v) : H w0 L n (σ.put d t) (a.put d v) w c F := by
  cases d with
  | none => exact h
  | some d =>
    have hd := hd d rfl
    refine ⟨h.keeps, by simp [Act.put, h.size], h.defers, fun k => ?_, h.mem, h.dom, h.disj, h.new, h.imm, h.inn, h.par⟩
    simp only [AS.put, Act.put]
    by_cases hk : k = d
    · subst hk
      have hs := h.size
      simp [hs, hd, ht]
    · rw [if_neg hk]
      have h3 : (a.tmps.setIfInBounds d v)[k]? = a.tmps[k]? := by rw [Array.getElem?_setIfInBounds_ne (fun e => hk e.symm)]
      have : (a.tmps.setIfInBounds d v).getD k undef = a.tmps.getD k undef := by simp only [Array.getD_eq_getD_getElem?, h3]
      rw [this]; exact h.tm k

theorem Keeps.step {w' : World} (h : Keeps L w0 w) (ho : w'.os = w.os) (ht : w'.tape = w.tape) (hp : w'.output = w.output) (hs : w.heap.size ≤ w'.heap.size)
    (hb : ∀ k, k < w0.heap.size → ¬ L k → w'.heap[k]? = w.heap[k]?) (hd : w.drawn ≤ w'.drawn) : Keeps L w0 w' :=
  ⟨ho.trans h.os, ht.trans h.tape, hp.trans h.output, Nat.le_trans h.size hs, fun k hk hl => (hb k hk hl).trans (h.block k hk hl), Nat.le_trans h.dr hd⟩

theorem BlkOk.mono {c' : Ctx} {w' : World} {F : Nat → Prop} {s : Nat} {k : Blk} (h1 : ∀ s i, c.at_ s = some i → c'.at_ s = some i) (h2 : ∀ b, c.I b → c'.I b) (h3 : ∀ b, c.I b → w'.heap[b]? = w.heap[b]?)
    (hF : ∀ b, F b → w'.heap[b]? = w.heap[b]?) (h : BlkOk c w F s k) : BlkOk c' w' F s k := by
  cases k with
  | var xs =>
    obtain ⟨b, C, e, fz, a1, a2, a3, a4, a5⟩ := h
    exact ⟨b, C, e, fz, h1 _ _ a1, (hF b ((a5 b).2 rfl)).trans a2, a3, a4.mono h1 h2 h3, a5⟩
  | row p sz es =>
    rcases h with ⟨a1, a2, a3⟩ | ⟨b, cap, a1, a2⟩
    · exact .inl ⟨h1 _ _ a1, a2, a3⟩
    · exact .inr ⟨b, cap, h1 _ _ a1, a2.mono h1 h2 h3 hF⟩
  | par v x =>
    exact ⟨h1 _ _ h.1, h.2⟩
  | pin s' i =>
    obtain ⟨a1, a2, a3⟩ := h
    exact ⟨h1 _ _ a1, a2, h1 _ _ a3⟩
  | mapb b es =>
    obtain ⟨a1, ⟨ents, ck, a2, a3⟩, a4⟩ := h
    exact ⟨h1 _ _ a1, ⟨ents, ck, (hF b ((a4 b).2 rfl)).trans a2, a3⟩, a4⟩

/-- Of the places that are there, m tells what the state tells. -/
def Sup (σ : AS) (m : Nat → Option Blk) : Prop := (∀ s k, m s = some k → σ.mem s = none ∨ σ.mem s = some k) ∧ ∀ s k, k.isPar = true → m s = some k → σ.mem s = some k
theorem Sup.refl (σ : AS) : Sup σ σ.mem := ⟨fun _ _ h => .inr h, fun _ _ _ h => h⟩
/-- More places, and none that is not new. -/
def Le (m m' : Nat → Option Blk) : Prop := (∀ s k, m s = some k → m' s = some k) ∧ ∀ s k, k.isPar = true → m' s = some k → m s = some k
theorem Le.refl (m : Nat → Option Blk) : Le m m := ⟨fun _ _ h => h, fun _ _ _ h => h⟩
theorem H.look (h : H w0 L n σ a w c F) {m : Nat → Option Blk} (hm : Sup σ m) {s : Nat} {i : SI} {k : Blk} (hs : c.at_ s = some i) (hk : m s = some k) : σ.mem s = some k :=
  (hm.1 s k hk).resolve_left fun e => by have := (h.dom s e).1; rw [hs] at this; cases this

/-- The world moves on, and no old block is written. -/
theorem H.world {w' : World} (h : H w0 L n σ a w c F) (hb : Bel w.heap.size w w') : H w0 L n σ a w' c F := by
  have h3 : ∀ b, c.I b → w'.heap[b]? = w.heap[b]? := fun b hI => hb.block b (h.imm b hI)
  have h4 : ∀ s b, F s b → w'.heap[b]? = w.heap[b]? := fun s b hF => hb.block b (h.new s b hF).2
  exact ⟨h.keeps.step hb.os hb.tape hb.output hb.size (fun k hk _ => hb.block k (Nat.lt_of_lt_of_le hk h.keeps.size)) hb.dr, h.size, h.defers, fun t => (h.tm t).mono (fun _ _ h => h) (fun _ h => h) h3,
    fun s k hk => (h.mem s k hk).mono (fun _ _ h => h) (fun _ h => h) h3 (h4 s), h.dom, h.disj, fun s k hk => ⟨(h.new s k hk).1, Nat.lt_of_lt_of_le (h.new s k hk).2 hb.size⟩,
    fun k hk => Nat.lt_of_lt_of_le (h.imm k hk) hb.size, h.inn, h.par⟩

theorem H.old_not (h : H w0 L n σ a w c F) {k s : Nat} (hk : oldB w0 L k) (hF : F s k) : False := by
  rcases (h.new s k hF).1 with h1 | h1
  · have := hk.1; omega
  · exact hk.2 h1

/-- The context with one place more. -/
def Ctx.add (c : Ctx) (s : Nat) (i : SI) (J : Nat → Prop) : Ctx := ⟨fun s' => if s' = s then some i else c.at_ s', fun k => c.I k ∨ J k⟩
def SI.isTop : SI → Nat → Prop
  | .var b, k => k = b
  | .row b _ _, k => k = b
  | .nil, _ => False

theorem Ctx.top_add_self (c : Ctx) (s : Nat) (i : SI) (J : Nat → Prop) (k : Nat) : (c.add s i J).top s k ↔ i.isTop k := by
  cases i <;> simp [Ctx.top, Ctx.add, SI.isTop] <;> exact ⟨fun h => h.symm, fun h => h.symm⟩
theorem Ctx.top_add_ne (c : Ctx) {s s' : Nat} (hs : s' ≠ s) (i : SI) (J : Nat → Prop) (k : Nat) : (c.add s i J).top s' k ↔ c.top s' k := by
  simp [Ctx.top, Ctx.add, hs]

theorem Ctx.add_ext {c : Ctx} {s : Nat} (h : c.at_ s = none) (i : SI) (J : Nat → Prop) : (∀ s' i', c.at_ s' = some i' → (c.add s i J).at_ s' = some i') ∧ ∀ b, c.I b → (c.add s i J).I b :=
  ⟨fun s' i' h' => by
    have : s' ≠ s := fun e => by subst e; rw [h] at h'; cases h'
    simp [Ctx.add, this, h'], fun b hb => .inl hb⟩

/-- A new place, in new blocks. -/
theorem H.addSite {w' : World} (h : H w0 L n σ a w c F) (hb : Bel w.heap.size w w') {s : Nat} {k : Blk} (hs : σ.mem s = none) {i : SI} {G : Nat → Prop}
    (hG : ∀ b, G b → w.heap.size ≤ b ∧ b < w'.heap.size) (hk : BlkOk (c.add s i (fun b => G b ∧ ¬ i.isTop b)) w' G s k) (hkp : k.isArg = false := by rfl) :
    H w0 L n (σ.add s k) a w' (c.add s i (fun b => G b ∧ ¬ i.isTop b)) (fun s' b => (s' = s ∧ G b) ∨ F s' b) := by
  have h' := h.world hb
  have hd := h.dom s hs
  obtain ⟨e1, e2⟩ := Ctx.add_ext hd.1 i (fun b => G b ∧ ¬ i.isTop b)
  have hF : (fun b => (s = s ∧ G b) ∨ F s b) = G := by funext b; simp [hd.2 b]
  have hns : ∀ s' b, s' ≠ s → ((s' = s ∧ G b) ∨ F s' b ↔ F s' b) := fun s' b hn => by simp [hn]
  refine ⟨h'.keeps, h'.size, h'.defers, fun t => (h'.tm t).mono e1 e2 (fun _ _ => rfl), fun s' k' hk' => ?_, fun s' hs' => ?_, fun s1 s2 b h1 h2 => ?_, fun s' b hb' => ?_, fun b hb' => ?_, fun s' b hb' => ?_, fun s' v x hs' => by
    by_cases e : s' = s
    · subst e; simp [AS.add] at hs'; subst hs'; cases hkp
    · simp [AS.add, e] at hs'; obtain ⟨q1, q2, q3⟩ := h.par s' v x hs'; exact ⟨q1, q2, fun k hk => .inl (q3 k hk)⟩⟩
  · by_cases e : s' = s
    · subst e
      simp [AS.add] at hk'
      subst hk'
      rw [hF]; exact hk
    · simp [AS.add, e] at hk'
      have := (h'.mem s' k' hk').mono e1 e2 (fun _ _ => rfl) (fun _ _ => rfl)
      rw [show (fun b => (s' = s ∧ G b) ∨ F s' b) = F s' from funext fun b => propext (hns s' b e)]
      exact this
  · have e : s' ≠ s := fun e => by subst e; simp [AS.add] at hs'
    simp [AS.add, e] at hs'
    have := h'.dom s' hs'
    exact ⟨by simp [Ctx.add, e, this.1], fun b => by rw [hns s' b e]; exact this.2 b⟩
  · rcases h1 with ⟨rfl, h1⟩ | h1 <;> rcases h2 with ⟨rfl, h2⟩ | h2
    · rfl
    · exact absurd (h.new _ _ h2).2 (by have := (hG b h1).1; omega)
    · exact absurd (h.new _ _ h1).2 (by have := (hG b h2).1; omega)
    · exact h.disj _ _ _ h1 h2
  · rcases hb' with ⟨rfl, h1⟩ | h1
    · exact ⟨.inl (Nat.le_trans h.keeps.size (hG b h1).1), (hG b h1).2⟩
    · exact h'.new _ _ h1
  · rcases hb' with h1 | h1
    · exact h'.imm _ h1
    · exact (hG b h1.1).2
  · by_cases e : s' = s
    · subst e
      have hg : G b := by rcases hb' with h1 | h1; exact h1.2; exact absurd h1 (hd.2 b)
      rw [Ctx.top_add_self]
      constructor
      · rintro (h1 | h1)
        · exact absurd (h.imm b h1) (by have := (hG b hg).1; omega)
        · exact h1.2
      · exact fun h1 => .inr ⟨hg, h1⟩
    · rw [Ctx.top_add_ne c e]
      have h1 : F s' b := (hns s' b e).1 hb'
      rw [← h.inn s' b h1]
      constructor
      · rintro (h2 | h2)
        · exact h2
        · exact absurd (h.new s' b h1).2 (by have := (hG b h2.1).1; omega)
      · exact .inl

/-- A new variable. -/
theorem H.newVar (h : H w0 L n σ a w c F) {s : Nat} (hs : σ.mem s = none) {xs : List AV} {C : Array Value} {e : TypeId} (hC : RL c w xs C.toList) :
    ∃ c' F', H w0 L n (σ.add s (.var xs)) a (w.alloc (.cells C e)) c' F' ∧ c'.at_ s = some (.var w.heap.size) := by
  have hb : Bel w.heap.size w (w.alloc (.cells C e)) := (Bel.refl _ _).alloc (Nat.le_refl _) _
  have hd := h.dom s hs
  refine ⟨_, _, h.addSite (i := .var w.heap.size) (G := fun b => b = w.heap.size) hb hs (fun b hb => by subst hb; simp) ?_, by simp [Ctx.add]⟩
  obtain ⟨e1, e2⟩ := Ctx.add_ext hd.1 (.var w.heap.size) (fun b => (fun b => b = w.heap.size) b ∧ ¬ (SI.var w.heap.size).isTop b)
  refine ⟨w.heap.size, C, e, (0, 0), by simp [Ctx.add], heap_alloc_new w _, fun i _ => by simp, hC.mono e1 e2 (fun b hI => ?_), fun k => Iff.rfl⟩
  exact hb.block b (h.imm b hI)

/-- A cell of a variable of the call's own. -/
theorem H.varCell (h : H w0 L n σ a w c F) {s : Nat} {xs : List AV} (hs : σ.mem s = some (.var xs)) :
    ∃ b C e fz, c.at_ s = some (.var b) ∧ w.heap[b]? = some (.cells C e fz) ∧ Unfz 1 C fz ∧ RL c w xs C.toList ∧ F s b := by
  obtain ⟨b, C, e, fz, a1, a2, a3, a4, a5⟩ := h.mem s _ hs
  exact ⟨b, C, e, fz, a1, a2, a3, a4, (a5 b).2 rfl⟩
end
end Go.Proofs.Ytlijeincckbdaaa
namespace Go.Proofs.Ytlijeincckbdaaa
open Go.RowKit
set_option linter.unusedSimpArgs false
set_option linter.unusedVariables false

def aggD : TypeDesc → Bool
  | .struct _ | .array _ _ => true
  | _ => false
/-- A type's size in cells, and whether its values are aggregates. -/
def tyI (P : Program) (t : TypeId) : Option (Nat × Bool) :=
  match P.info? t, P.underlying t with
  | some i, some d => if aggD d || i.size == 1 then some (i.size, aggD d) else none
  | _, _ => none
/-- A field's offset, size, and whether it is an aggregate. -/
def fldI (P : Program) (s : TypeId) (f : Nat) : Option (Nat × Nat × Bool) :=
  match P.underlying s with
  | some (.struct fs) => match fs[f]? with
    | some f => match tyI P f.type with
      | some (sz, g) => if sz = 0 then none else some (f.offset, sz, g)
      | none => none
    | none => none
  | _ => none
/-- A slice type's element type, its size in cells and in bytes. -/
def elI (P : Program) (t : TypeId) : Option (TypeId × Nat × Nat) :=
  match P.underlying t with
  | some (.slice e) => match P.info? e with
    | some i => if i.size = 0 then none else some (e, i.size, i.bytes)
    | none => none
  | _ => none
/-- The zero value's cells. -/
def zrI (P : Program) (t : TypeId) : Option (List Value) :=
  match P.info? t with
  | some i => match i.zero with
    | some z => if z.cells.toList.all (·.oneCell') then some z.cells.toList else none
    | none => none
  | none => none
/-- What is known of a type, in one row. -/
inductive TyKd where
  | int (k : IntKind) | str | bool | sl | struct (n : Nat) | other
structure TyRow where
  ty : Option (Nat × Bool)
  fld : List (Option (Nat × Nat × Bool))
  el : Option (TypeId × Nat × Nat)
  zr : Option (List Value)
  kd : TyKd
def kdOf : Option TypeDesc → Option TyKd
  | some (.int k) => some (.int k)
  | some .string => some .str
  | some .bool => some .bool
  | some (.slice _) => some .sl
  | some (.struct fs) => some (.struct fs.size)
  | some _ => some .other
  | none => none
def nfOf : Option TyKd → Nat
  | some (.struct n) => n
  | _ => 0
def rowOf (P : Program) (t : TypeId) : Option TyRow :=
  match kdOf (P.underlying t) with
  | some k => some ⟨tyI P t, (List.range (nfOf (some k))).map (fldI P t), elI P t, zrI P t, k⟩
  | none => none

/-- An order in which a region is walked: operations in a row; one that is taken first; all that may come next, each with what follows. -/
inductive OT where
  | seq (ds : List Nat)
  | take (i : Nat) (t : OT)
  | alt (i : Nat) (t rest : OT)
  | none
/-- A table of rows, as a tree. -/
inductive Tab where
  | nil
  | node (t : Nat) (r : TyRow) (a b : Tab)
  | marks (l own : List Nat) (ord : List (Nat × OT)) (a : Tab)
def Tab.get : Tab → Nat → Option TyRow
  | .nil, _ => none
  | .node t r a b, k => if k = t then some r else if k < t then a.get k else b.get k
  | .marks _ _ _ a, k => a.get k
/-- The functions that write into what they are lent. -/
def Tab.wr : Tab → List Nat
  | .marks l _ _ _ => l
  | _ => []
/-- Those of them whose contract is a step of the caller's own state. -/
def Tab.own : Tab → List Nat
  | .marks _ l _ _ => l
  | _ => []
/-- Of regions that are walked in another order than their text's: their numbers, this order. -/
def Tab.ord : Tab → List (Nat × OT)
  | .marks _ _ b _ => b
  | _ => []
/-- The table tells what the program's types are. -/
def Tab.ok (P : Program) : Tab → Prop
  | .nil => True
  | .node t r a b => rowOf P t = some r ∧ a.ok P ∧ b.ok P
  | .marks _ _ _ a => a.ok P
theorem Tab.get_ok {P : Program} : ∀ {E : Tab}, E.ok P → ∀ {t : Nat} {r : TyRow}, E.get t = some r → rowOf P t = some r
  | .nil, _, t, r, h => by simp [Tab.get] at h
  | .node k q a b, hE, t, r, h => by
    simp only [Tab.get] at h
    split at h
    · rename_i e; subst e; cases h; exact hE.1
    · split at h
      · exact Tab.get_ok hE.2.1 h
      · exact Tab.get_ok hE.2.2 h
  | .marks _ _ _ a, hE, t, r, h => Tab.get_ok (E := a) hE h

def Tab.ty (E : Tab) (t : TypeId) : Option (Nat × Bool) := match E.get t with | some r => r.ty | none => none
def Tab.fld (E : Tab) (t : TypeId) (f : Nat) : Option (Nat × Nat × Bool) := match E.get t with | some r => (match r.fld[f]? with | some x => x | none => none) | none => none
def Tab.el (E : Tab) (t : TypeId) : Option (TypeId × Nat × Nat) := match E.get t with | some r => r.el | none => none
def Tab.zr (E : Tab) (t : TypeId) : Option (List Value) := match E.get t with | some r => r.zr | none => none
def Tab.kd (E : Tab) (t : TypeId) : Option TyKd := match E.get t with | some r => some r.kd | none => none

section
variable {P : Program} {E : Tab} (hE : E.ok P)
include hE
theorem Tab.row {t : TypeId} {r : TyRow} (h : E.get t = some r) : tyI P t = r.ty ∧ (∀ f : Nat, f < r.fld.length → r.fld[f]? = some (fldI P t f)) ∧ elI P t = r.el ∧ zrI P t = r.zr ∧ kdOf (P.underlying t) = some r.kd ∧ r.fld.length = nfOf (some r.kd) := by
  have := Tab.get_ok hE h
  unfold rowOf at this
  split at this
  · rename_i k hk
    cases this
    exact ⟨rfl, fun f hf => by simp at hf; simp [hf], rfl, rfl, hk, by simp⟩
  · cases this
theorem Tab.ty_ok {t : TypeId} {x : Nat × Bool} (h : E.ty t = some x) : tyI P t = some x := by
  unfold Tab.ty at h
  split at h
  · rename_i r hr; rw [(Tab.row hE hr).1]; exact h
  · cases h
theorem Tab.fld_ok {t : TypeId} {f : Nat} {x : Nat × Nat × Bool} (h : E.fld t f = some x) : fldI P t f = some x := by
  unfold Tab.fld at h
  split at h
  · rename_i r hr
    split at h
    · rename_i y hy
      have := (Tab.row hE hr).2.1 f (List.getElem?_eq_some_iff.1 hy).1
      rw [hy] at this
      cases this; exact h
    · cases h
  · cases h
theorem Tab.el_ok {t : TypeId} {x : TypeId × Nat × Nat} (h : E.el t = some x) : elI P t = some x := by
  unfold Tab.el at h
  split at h
  · rename_i r hr; rw [(Tab.row hE hr).2.2.1]; exact h
  · cases h
theorem Tab.zr_ok {t : TypeId} {x : List Value} (h : E.zr t = some x) : zrI P t = some x := by
  unfold Tab.zr at h
  split at h
  · rename_i r hr; rw [(Tab.row hE hr).2.2.2.1]; exact h
  · cases h
theorem Tab.kd_ok {t : TypeId} {x : TyKd} (h : E.kd t = some x) : kdOf (P.underlying t) = some x := by
  unfold Tab.kd at h
  split at h
  · rename_i r hr; rw [(Tab.row hE hr).2.2.2.2.1]; exact h
  · cases h
theorem Tab.str_ok {t : TypeId} (h : E.kd t = some .str) : P.underlying t = some .string := by
  have := Tab.kd_ok hE h
  unfold kdOf at this
  split at this <;> first | assumption | cases this
theorem Tab.int_ok {t : TypeId} {k : IntKind} (h : E.kd t = some (.int k)) : P.underlying t = some (.int k) := by
  have := Tab.kd_ok hE h
  unfold kdOf at this
  split at this <;> first | (cases this; assumption) | cases this
theorem Tab.bool_ok {t : TypeId} (h : E.kd t = some .bool) : P.underlying t = some .bool := by
  have := Tab.kd_ok hE h
  unfold kdOf at this
  split at this <;> first | assumption | cases this
theorem Tab.sl_ok {t : TypeId} (h : E.kd t = some .sl) : ∃ e, P.underlying t = some (.slice e) := by
  have := Tab.kd_ok hE h
  unfold kdOf at this
  split at this <;> first | exact ⟨_, by assumption⟩ | cases this
theorem Tab.struct_ok {t n : Nat} (h : E.kd t = some (.struct n)) : ∃ fs, P.underlying t = some (.struct fs) ∧ fs.size = n := by
  have := Tab.kd_ok hE h
  unfold kdOf at this
  split at this <;> first | (cases this; exact ⟨_, by assumption, rfl⟩) | cases this
theorem Tab.some_ok {t : TypeId} {x : TyKd} (h : E.kd t = some x) : (P.underlying t).isSome = true := by
  have := Tab.kd_ok hE h
  unfold kdOf at this
  split at this <;> first | cases this; done | (rename_i h; rw [h]; rfl) | skip
  all_goals (rename_i h; first | (rw [h]; rfl) | (cases this))
end

def mkT (g : Bool) (xs : List AV) : T :=
  if g then .agg (xs.map AV.bor) else match xs with
    | [x] => .one x.bor
    | _ => .dead

def T.cells : T → Option (List AV)
  | .one x => some [x]
  | .agg xs => some xs
  | _ => none

abbrev News := List (Nat × Blk)

section
variable (E : Tab) (m : Nat → Option Blk) (K : T → News → Prop)

def opPick (c a b : T) : Prop :=
  match c with
  | .one (.lit (.bool cb)) => match cb with
    | true => K a []
    | false => K b []
  | _ => False

def opAlloc (site : Nat) (t : TypeId) : Prop :=
  match E.zr t with
  | some zs => K (.one (.ptr site 0)) [(site, .var (zs.map .lit))]
  | none => False

def opBox (site : Nat) (x : T) : Prop :=
  match x.cells with
  | some xs => K (.one (.ptr site 0)) [(site, .var xs)]
  | none => False

def opLoad (t : TypeId) (a : T) : Prop :=
  match E.ty t with
  | some (sz, g) => match a with
    | .one (.ptr s j) => match m s with
      | some (.var xs) => if j + sz ≤ xs.length then K (mkT g ((xs.drop j).take sz)) [] else False
      | _ => False
    | .one (.eptr s i j) => match m s with
      | some (.row _ _ es) => ∃ e, es[i]? = some e ∧ if j + sz ≤ e.length then K (mkT g ((e.drop j).take sz)) [] else False
      | _ => False
    | .one (.bptr xs j) => if j + sz ≤ xs.length then K (mkT g ((xs.drop j).take sz)) [] else False
    | _ => False
  | none => False

def opFieldAddr (s : TypeId) (f : Nat) (x : T) : Prop :=
  match E.fld s f with
  | some (o, _, _) => match x with
    | .one (.ptr s j) => K (.one (.ptr s (j + o))) []
    | .one (.eptr s i j) => K (.one (.eptr s i (j + o))) []
    | .one (.bptr xs j) => K (.one (.bptr xs (j + o))) []
    | _ => False
  | none => False

def opField (s : TypeId) (f : Nat) (x : T) : Prop :=
  match E.fld s f with
  | some (o, sz, g) => match x with
    | .agg xs => if o + sz ≤ xs.length then K (mkT g ((xs.drop o).take sz)) [] else False
    | _ => False
  | none => False

def opIndexAddr (t : TypeId) (x i : T) : Prop :=
  match E.el t with
  | some (_, sz, _) => match x, i with
    | .one (.loc s off len), .one (.lit (.int _ n)) => ∃ i : Nat, n = (i : Int) ∧ i < len ∧ (match m s with
      | some (.row _ rz _) => if rz = sz then K (.one (.eptr s (off + i) 0)) [] else False
      | _ => False)
    | .one (.row _ rz es), .one (.lit (.int _ n)) => if rz = sz then ∃ i : Nat, n = (i : Int) ∧ ∃ e, es[i]? = some e ∧ K (.one (.bptr e 0)) [] else False
    | .one (.lit (.slice A len cap)), .one (.lit (.int _ n)) => ∃ (s : Nat) (o : Bool) (es : List (List AV)), m s = some (.par (.slice A len cap) (.row o sz es)) ∧ ∃ i : Nat, n = (i : Int) ∧ ∃ e, es[i]? = some e ∧ K (.one (.bptr e 0)) []
    | _, _ => False
  | none => False

def opIndex (t : TypeId) (x i : T) : Prop :=
  match E.kd t, x, i with
    | some .str, .one (.lit (.string s)), .one (.lit (.int _ n)) => ∃ i : Nat, n = (i : Int) ∧ i < s.size ∧ K (.one (.lit (.int .u8 ((s.data.toList.getD i 0).toNat : Int)))) []
    | _, _, _ => False

def optInt : Option T → Option (Option Int)
  | none => some none
  | some (.one (.lit (.int _ n))) => some (some n)
  | _ => none

def opSlice (t : TypeId) (x : T) (lo hi : Option T) : Prop :=
  match optInt lo, optInt hi with
  | some lo, some hi => match E.kd t with
    | some .str => match x with
      | .one (.lit (.string s)) => 0 ≤ lo.getD 0 ∧ lo.getD 0 ≤ hi.getD s.size ∧ hi.getD s.size ≤ (s.size : Int) ∧
          ∃ s', s' = s.extract (lo.getD 0).toNat (hi.getD s.size).toNat ∧ K (.one (.lit (.string s'))) []
      | _ => False
    | some .sl => match E.el t with
      | some (_, sz, _) => match x with
        | .one (.loc s off len) => 0 ≤ lo.getD 0 ∧ lo.getD 0 ≤ hi.getD len ∧ hi.getD len ≤ (len : Int) ∧ (match m s with
          | some (.row _ rz _) => if rz = sz then ∃ o l, o = off + (lo.getD 0).toNat ∧ l = (hi.getD len).toNat - (lo.getD 0).toNat ∧ K (.one (.loc s o l)) [] else False
          | _ => False)
        | .one (.row _ rz es) => 0 ≤ lo.getD 0 ∧ lo.getD 0 ≤ hi.getD es.length ∧ hi.getD es.length ≤ (es.length : Int) ∧ if rz = sz then
            ∃ es', es' = (es.drop (lo.getD 0).toNat).take ((hi.getD es.length).toNat - (lo.getD 0).toNat) ∧ K (.one (.row false rz es')) [] else False
        | _ => False
      | none => False
    | _ => False
  | _, _ => False

/-- Strings in Go's order. -/
def sless (a b : ByteArray) : Bool := Op.bytesLess a.toList b.toList

def opBin (op : BinOp) (t : TypeId) (x y : T) : Prop :=
  match x, y with
  | .one (.lit (.int k a)), .one (.lit (.int k' b)) =>
    match op with
    | .shl => 0 ≤ b ∧ ∃ r, r = k.wrap (a * 2 ^ (min b.toNat k.bits)) ∧ K (.one (.lit (.int k r))) []
    | .shr => 0 ≤ b ∧ ∃ r, r = a.fdiv (2 ^ (min b.toNat k.bits)) ∧ K (.one (.lit (.int k r))) []
    | op => if k = k' then match op with
      | .add => ∃ r, r = k.wrap (a + b) ∧ K (.one (.lit (.int k r))) []
      | .sub => ∃ r, r = k.wrap (a - b) ∧ K (.one (.lit (.int k r))) []
      | .mul => ∃ r, r = k.wrap (a * b) ∧ K (.one (.lit (.int k r))) []
      | .quo => b ≠ 0 ∧ ∃ r, r = k.wrap (a.tdiv b) ∧ K (.one (.lit (.int k r))) []
      | .rem => b ≠ 0 ∧ ∃ r, r = a.tmod b ∧ K (.one (.lit (.int k r))) []
      | .eql => K (.one (.lit (.bool (decide (a = b))))) []
      | .neq => K (.one (.lit (.bool (!decide (a = b))))) []
      | .lss => K (.one (.lit (.bool (decide (a < b))))) []
      | .leq => K (.one (.lit (.bool (decide (a ≤ b))))) []
      | .gtr => K (.one (.lit (.bool (decide (b < a))))) []
      | .geq => K (.one (.lit (.bool (decide (b ≤ a))))) []
      | .and => K (.one (.lit (.int k (bits .and k a b)))) []
      | .or => K (.one (.lit (.int k (bits .or k a b)))) []
      | .xor => K (.one (.lit (.int k (bits .xor k a b)))) []
      | .andNot => K (.one (.lit (.int k (bits .andNot k a b)))) []
      | _ => False
      else False
  | .one (.lit (.string a)), .one (.lit (.string b)) =>
    match op with
    | .add => a.size + b.size ≤ 9223372036854775807 ∧ K (.one (.lit (.string (a ++ b)))) []
    | .eql => K (.one (.lit (.bool (decide (a = b))))) []
    | .neq => K (.one (.lit (.bool (!decide (a = b))))) []
    | .lss => K (.one (.lit (.bool (sless a b)))) []
    | .leq => K (.one (.lit (.bool (sless a b || decide (a = b))))) []
    | .gtr => K (.one (.lit (.bool (!(sless a b || decide (a = b)))))) []
    | .geq => K (.one (.lit (.bool (!sless a b)))) []
    | _ => False
  | .one (.nn _ _), .one (.lit (.slice none 0 0)) => match E.kd t, op with
    | some .sl, .eql => K (.one (.lit (.bool false))) []
    | some .sl, .neq => K (.one (.lit (.bool true))) []
    | _, _ => False
  | .one (.lit (.slice none _ _)), .one (.lit (.slice none 0 0)) => match E.kd t, op with
    | some .sl, .eql => K (.one (.lit (.bool true))) []
    | some .sl, .neq => K (.one (.lit (.bool false))) []
    | _, _ => False
  | .one (.lit (.bool a)), .one (.lit (.bool b)) =>
    match E.kd t with
    | some .bool => match op with
      | .eql => K (.one (.lit (.bool (a == b)))) []
      | .neq => K (.one (.lit (.bool (!(a == b))))) []
      | _ => False
    | _ => False
  | _, _ => False

def opUn (op : UnOp) (x : T) : Prop :=
  match op, x with
  | .not, .one (.lit (.bool b)) => K (.one (.lit (.bool (!b)))) []
  | .neg, .one (.lit (.int k n)) => ∃ r, r = k.wrap (0 - n) ∧ K (.one (.lit (.int k r))) []
  | .xor, .one (.lit (.int k n)) => K (.one (.lit (.int k (bits .xor k (if k.signed then -1 else k.max) n)))) []
  | _, _ => False

/-- Conversions that make nothing. -/
def opConv (src dst : TypeId) (x : T) : Prop :=
  match x with
  | .one (.lit (.int _ n)) => match E.kd dst, E.kd src with
    | some (.int k), some _ => ∃ r, r = k.wrap n ∧ K (.one (.lit (.int k r))) []
    | _, _ => False
  | .one (.lit (.string s)) => match E.kd dst, E.kd src with
    | some .str, some _ => K (.one (.lit (.string s))) []
    | _, _ => False
  | _ => False

def opNilCheck (x : T) : Prop :=
  match x with
  | .one (.ptr s j) => K (.one (.ptr s j)) []
  | .one (.eptr s i j) => K (.one (.eptr s i j)) []
  | .one (.bptr xs j) => K (.one (.bptr xs j)) []
  | .one (.fn f cs) => K (.one (.fn f cs)) []
  | _ => False

def opExtract (x : T) (i : Nat) : Prop :=
  match x with
  | .tup ts => match ts[i]? with
    | some (false, [y]) => K (.one y) []
    | some (true, ys) => K (.agg ys) []
    | _ => False
  | _ => False

def ones : List T → Option (List AV)
  | [] => some []
  | .one x :: l => (ones l).map (x :: ·)
  | _ :: _ => none

def opMakeFunc (fn : Fn) (first : Nat) (caps : List T) : Prop :=
  match fn, first, ones caps with
  | .func f, 0, some xs => K (.one (.fn f xs)) []
  | _, _, _ => False

def opMakeSlice (site : Nat) (t : TypeId) (l c : T) : Prop :=
  match E.el t, l, c with
  | some (e, sz, by_), .one (.lit (.int _ l)), .one (.lit (.int _ c)) => match E.zr e with
    | some zs => if zs.length = sz then ∃ i : Nat, l = (i : Int) ∧ l ≤ c ∧ (by_ : Int) * c ≤ 281474976710656 ∧ c ≤ (maxLen : Nat) ∧
        K (.one (.loc site 0 i)) [(site, .row true sz (List.replicate i (zs.map .lit)))] else False
    | none => False
  | _, _, _ => False

/-- A segment is set (by one walk along the list: nothing is told twice). -/
def splice (sz : Nat) (ys : List AV) : Nat → List AV → List AV
  | 0, xs => ys ++ xs.drop sz
  | _ + 1, [] => ys
  | o + 1, x :: xs => x :: splice sz ys o xs
@[simp] theorem splice_eq (sz : Nat) (ys : List AV) : ∀ (o : Nat) (xs : List AV), splice sz ys o xs = xs.take o ++ ys ++ xs.drop (o + sz)
  | 0, xs => by simp [splice]
  | o + 1, [] => by simp [splice]
  | o + 1, x :: xs => by simp [splice, splice_eq sz ys o xs, Nat.add_right_comm o 1 sz]
/-- Parts laid into cells. -/
def fillA (place : Nat → Option (Nat × Nat)) : List (Nat × T) → List AV → Option (List AV)
  | [], xs => some xs
  | (i, t) :: l, xs => match place i, t.cells with
    | some (o, sz), some ys => if ys.length = sz ∧ o + sz ≤ xs.length then fillA place l (splice sz ys o xs) else none
    | _, _ => none

def opBuild (t : TypeId) (ps : List (Nat × T)) : Prop :=
  match E.zr t, E.kd t with
  | some zs, some (.struct n) => match fillA (fun i => match E.fld t i with | some x => some (x.1, x.2.1) | none => none) ps (zs.map .lit), (List.range n).all fun i => (E.fld t i).isSome with
    | some xs, true => K (.agg xs) []
    | _, _ => False
  | _, _ => False

def chunk (sz : Nat) (xs : List AV) : Nat → List (List AV)
  | 0 => []
  | n + 1 => xs.take sz :: chunk sz (xs.drop sz) n

def opBuildSlice (site : Nat) (t : TypeId) (len : Nat) (ps : List (Nat × T)) : Prop :=
  match E.el t with
  | some (e, sz, _) => match E.zr e with
    | some zs => if zs.length = sz ∧ len * sz ≤ 16777216 then (match fillA (fun i => some (i * sz, sz)) ps ((List.replicate len (zs.map .lit)).flatten) with
      | some xs => K (.one (.loc site 0 len)) [(site, .row ((xs.map AV.bor).all AV.isData) sz (chunk sz (xs.map AV.bor) len))]
      | none => False) else False
    | none => False
  | none => False

def opLen (t : TypeId) (x : T) : Prop :=
  match E.kd t, x with
  | some .str, .one (.lit (.string s)) => K (.one (.lit (.int .i64 (s.size : Int)))) []
  | some .sl, .one (.loc _ _ len) => K (.one (.lit (.int .i64 (len : Int)))) []
  | some .sl, .one (.row _ _ es) => K (.one (.lit (.int .i64 (es.length : Int)))) []
  | some .sl, .one (.nn _ es) => K (.one (.lit (.int .i64 (es.length : Int)))) []
  | some .sl, .one (.lit (.slice _ len _)) => K (.one (.lit (.int .i64 (len : Int)))) []
  | _, _ => False

def opMinMax (mx : Bool) (x y : T) : Prop :=
  match x, y with
  | .one (.lit (.int k a)), .one (.lit (.int _ b)) => K (.one (.lit (.int k (if mx then max a b else min a b)))) []
  | _, _ => False
end
end Go.Proofs.Ytlijeincckbdaaa
namespace Go.Proofs.Ytlijeincckbdaaa
open Go.RowKit
set_option linter.unusedSimpArgs false
set_option linter.unusedVariables false

section
variable {P : Program} {w0 w : World} {L : Nat → Prop} {n : Nat} {σ : AS} {a : Act} {c : Ctx} {F : Nat → Nat → Prop}

theorem tyI_some {t : TypeId} {sz : Nat} {g : Bool} (h : tyI P t = some (sz, g)) : ∃ i d, P.info? t = some i ∧ P.underlying t = some d ∧ i.size = sz ∧ aggD d = g ∧ (g = false → sz = 1) := by
  unfold tyI at h
  split at h
  · rename_i i d hi hd
    split at h
    · rename_i hc
      simp at h
      refine ⟨i, d, hi, hd, h.1, h.2, fun hg => ?_⟩
      rw [h.2, hg] at hc
      simp at hc
      omega
    · cases h
  · cases h

theorem run_isAgg {t : TypeId} {d : TypeDesc} (hd : P.underlying t = some d) (w : World) : (isAgg t).run P w = .ok (aggD d) w := by
  cases d <;> simp [isAgg, run_underlying hd, aggD]

theorem run_sizeOf {t : TypeId} {i : TypeInfo} (hi : P.info? t = some i) (w : World) : (sizeOf t).run P w = .ok i.size w := by simp [sizeOf, typeInfo, hi]

/-- A variable that is read, cell by cell. -/
theorem run_loadVar_cells {t : TypeId} {sz : Nat} {g : Bool} (h : tyI P t = some (sz, g)) {b o : Nat} (vs : List Value) (hl : vs.length = sz) (hv : ∀ k v, vs[k]? = some v → w.cell? ⟨b, o + k, none⟩ = some v) :
    (loadVar t ⟨b, o, none⟩).run P w = .ok (if g then .agg vs.toArray else vs.headD default) w := by
  obtain ⟨i, d, hi, hd, rfl, rfl, h1⟩ := tyI_some h
  have hadd : ∀ k, (⟨b, o, none⟩ : Addr).add k = ⟨b, o + k, none⟩ := fun k => by unfold Addr.add; split <;> simp_all
  cases hg : aggD d with
  | true =>
    have := run_loadCells_list (P := P) w ⟨b, o, none⟩ vs (fun j v hj => by rw [hadd]; exact hv j v hj)
    rw [hl] at this
    simp [loadVar, run_isAgg hd, hg, run_sizeOf hi, this]
  | false =>
    have h2 := h1 hg
    rw [h2] at hl
    match vs, hl with
    | [v], _ =>
      have := hv 0 v rfl
      simp only [Nat.add_zero] at this
      simp [loadVar, run_isAgg hd, hg, this]

theorem RT_mkT {xs : List AV} {vs : List Value} {g : Bool} {sz : Nat} (hg : g = false → sz = 1) (hl : xs.length = sz) (h : RL c w xs vs) : RT c w (mkT g xs) (if g then .agg vs.toArray else vs.headD default) := by
  have h' := h.map_bor
  cases g with
  | true => simp only [mkT, if_true, RT]; exact h'
  | false =>
    have := hg rfl
    rw [this] at hl
    match xs, vs, hl, h with
    | [x], [v], _, h => simpa [mkT, RT] using ⟨h.1.1.bor, h.1.2⟩

theorem H.rowCell (h : H w0 L n σ a w c F) {s : Nat} {p : Bool} {sz : Nat} {es : List (List AV)} (hs : σ.mem s = some (.row p sz es)) {i : Nat} {e : List AV} (he : es[i]? = some e) :
    ∃ b cap, c.at_ s = some (.row b cap sz) ∧ e.length = sz ∧ F s b ∧ ∃ vs : List Value, RL c w e vs ∧ ∀ (k : Nat) (v : Value), vs[k]? = some v → w.cell? ⟨b, i * sz + k, none⟩ = some v := by
  rcases h.mem s _ hs with ⟨_, rfl, _⟩ | ⟨b, cap, hat, C, el, fz, G, a1, a2, a3, a4, a5, a6, a7, a8, a9, a10, a11, a12⟩
  · simp at he
  obtain ⟨hi, rfl⟩ := List.getElem?_eq_some_iff.1 he
  have hel := a6 _ (List.getElem_mem hi)
  refine ⟨b, cap, hat, hel, (a12 b).2 (.inl rfl), (C.toList.drop (i * sz)).take sz, ?_, fun k v hv => ?_⟩
  · have hfit : ∀ j, j < sz → i * sz + j < C.size := fun j hj => by rw [a5]; exact fit_lt hi hj a3
    refine RL.of ?_ fun k x v hx hv => ?_
    · rw [hel, List.length_take, List.length_drop, Array.length_toList, a5]
      have : (i + 1) * sz ≤ cap * sz := Nat.mul_le_mul_right _ (by omega)
      rw [Nat.add_mul] at this
      omega
    · rw [List.getElem?_take] at hv
      split at hv
      · rename_i hk
        rw [List.getElem?_drop] at hv
        have hx' : elt es i k = some x := by simp [elt, hi, hx]
        have hv' : C[i * sz + k]? = some v := by simpa using hv
        refine ⟨?_, a7 i k x v hx' hv'⟩
        rcases a8 i k x v hx' hv' with h1 | h1
        · refine h1.read fun q hq => ?_
          have hF : F s q := (a12 q).2 (.inr ⟨i, k, hq⟩)
          rw [h.inn s q hF]
          rintro (ht | ⟨_, _, ht⟩)
          · rw [hat] at ht; cases ht
          · rw [hat] at ht; cases ht; exact a9 i k hq
        · exact h1.2.2.1
      · cases hv
  · rw [List.getElem?_take] at hv
    split at hv
    · rw [List.getElem?_drop] at hv
      simp only [World.cell?, a1, Option.isSome_none, Bool.false_eq_true, if_false]
      simpa using hv
    · cases hv

theorem H.varCells (h : H w0 L n σ a w c F) {s : Nat} {xs : List AV} (hs : σ.mem s = some (.var xs)) :
    ∃ b, c.at_ s = some (.var b) ∧ F s b ∧ ∃ vs : List Value, RL c w xs vs ∧ ∀ (k : Nat) (v : Value), vs[k]? = some v → w.cell? ⟨b, k, none⟩ = some v := by
  obtain ⟨b, C, e, fz, a1, a2, a3, a4, a5⟩ := h.varCell hs
  refine ⟨b, a1, a5, C.toList, a4, fun k v hv => ?_⟩
  simp only [World.cell?, a2, Option.isSome_none, Bool.false_eq_true, if_false]
  simpa using hv

theorem R.bptrCells {xs : List AV} {j : Nat} {v : Value} (h : R c w (.bptr xs j) v) : ∃ b o, v = .pointer (some ⟨b, o + j, none⟩) ∧ c.I b ∧ (∀ (k : Nat) (x : AV), xs[k]? = some x → x.isFree = true) ∧ ∃ vs : List Value, RL c w xs vs ∧ ∀ (k : Nat) (v : Value), vs[k]? = some v → w.cell? ⟨b, o + k, none⟩ = some v := by
  cases h with
  | bptr b o vals a1 a0 a2 a3 a4 =>
    refine ⟨b, o, rfl, a1, a0, (List.range xs.length).map vals, RL.of (by simp) fun k x u hx hu => ?_, fun k u hu => ?_⟩
    · have hk := (List.getElem?_eq_some_iff.1 hx).1
      simp [hk] at hu
      subst hu
      exact ⟨a4 k x hx, a3 k x hx⟩
    · have hk : k < xs.length := by have := (List.getElem?_eq_some_iff.1 hu).1; simpa using this
      simp [hk] at hu
      subst hu
      exact a2 k xs[k] (by simp [hk])

def Post (w0 : World) (L : Nat → Prop) (n : Nat) (σ : AS) (a : Act) (news : News) (v : T) (V : Value) (w' : World) : Prop :=
  ∃ c' F', H w0 L n (σ.adds news) a w' c' F' ∧ RT c' w' v V

variable {K : T → News → Prop}
def Fresh (m : Nat → Option Blk) (news : News) : Prop := ∀ x ∈ news, m x.1 = none

theorem take_cells {xs : List AV} {vs : List Value} {b o j sz : Nat} (hv : ∀ (k : Nat) (v : Value), vs[k]? = some v → w.cell? ⟨b, o + k, none⟩ = some v) :
    ∀ (k : Nat) (v : Value), ((vs.drop j).take sz)[k]? = some v → w.cell? ⟨b, o + j + k, none⟩ = some v := fun k v h => by
  rw [List.getElem?_take] at h
  split at h
  · rw [List.getElem?_drop] at h
    rw [Nat.add_assoc]; exact hv _ _ h
  · cases h

theorem opLoad_ok {E : Tab} (hE : E.ok P) (h : H w0 L n σ a w c F) {m : Nat → Option Blk} (hm : Sup σ m) {t : TypeId} {x : T} {X : Value} (hX : RT c w x X) (hk : opLoad E m K t x) :
    ∃ v V, K v [] ∧ (Instr.loadAt t X).run P w = .ok V w ∧ RT c w v V := by
  unfold opLoad at hk
  split at hk
  case h_2 => exact hk.elim
  rename_i sz g hty
  replace hty := Tab.ty_ok hE hty
  have hg : g = false → sz = 1 := by obtain ⟨i, d, _, _, _, _, h1⟩ := tyI_some hty; exact h1
  split at hk
  · rename_i s j
    split at hk
    case h_2 => exact hk.elim
    rename_i xs hs
    split at hk
    case isFalse => exact hk.elim
    rename_i hle
    obtain ⟨hX, _⟩ := hX
    cases hX with | @ptr _ _ b hp =>
    replace hs := h.look hm hp hs
    obtain ⟨b', hat, _, vs, hR, hv⟩ := h.varCells hs
    rw [hp] at hat; cases hat
    have hl := hR.length
    have hc := take_cells (xs := xs) (b := b) (o := 0) (j := j) (sz := sz) (vs := vs) (w := w) (fun k v hkv => by rw [Nat.zero_add]; exact hv k v hkv)
    simp only [Nat.zero_add] at hc
    refine ⟨_, _, hk, ?_, RT_mkT hg (by simp; omega) ((hR.drop j).take sz)⟩
    simp only [Instr.loadAt, Instr.sureAddr, Sem.run_bind, Sem.run_pure, Result.andThen_ok]
    exact run_loadVar_cells hty _ (by simp; omega) hc
  · rename_i s i j
    split at hk
    case h_2 => exact hk.elim
    rename_i p rz es hs
    obtain ⟨e, he, hk⟩ := hk
    split at hk
    case isFalse => exact hk.elim
    rename_i hle
    obtain ⟨hX, _⟩ := hX
    cases hX with | @eptr _ _ _ b cap rz' hp =>
    replace hs := h.look hm hp hs
    obtain ⟨b', cap', hat, hel, _, vs, hR, hv⟩ := h.rowCell hs he
    rw [hp] at hat; cases hat
    have hl := hR.length
    have hc := take_cells (xs := e) (b := b) (o := i * rz) (j := j) (sz := sz) (vs := vs) (w := w) hv
    refine ⟨_, _, hk, ?_, RT_mkT hg (by simp; omega) ((hR.drop j).take sz)⟩
    simp only [Instr.loadAt, Instr.sureAddr, Sem.run_bind, Sem.run_pure, Result.andThen_ok]
    exact run_loadVar_cells hty _ (by simp; omega) hc
  · rename_i xs j
    split at hk
    case isFalse => exact hk.elim
    rename_i hle
    obtain ⟨hX, _⟩ := hX
    obtain ⟨b, o, rfl, _, _, vs, hR, hv⟩ := hX.bptrCells
    have hl := hR.length
    refine ⟨_, _, hk, ?_, RT_mkT hg (by simp; omega) ((hR.drop j).take sz)⟩
    simp only [Instr.loadAt, Instr.sureAddr, Sem.run_bind, Sem.run_pure, Result.andThen_ok]
    exact run_loadVar_cells hty _ (by simp; omega) (take_cells (xs := xs) hv)
  · exact hk.elim

theorem fldI_some {s f o sz : Nat} {g : Bool} (h : fldI P s f = some (o, sz, g)) : ∃ fs fd, P.underlying s = some (.struct fs) ∧ fs[f]? = some fd ∧ fd.offset = o ∧ tyI P fd.type = some (sz, g) ∧ sz ≠ 0 := by
  unfold fldI at h
  split at h
  · rename_i fs hs
    split at h
    · rename_i fd hf
      split at h
      · rename_i sz' g' ht
        split at h
        · cases h
        · simp at h; obtain ⟨rfl, rfl, rfl⟩ := h; exact ⟨fs, fd, hs, hf, rfl, ht, by assumption⟩
      · cases h
    · cases h
  · cases h

theorem run_fieldAt {s f o sz : Nat} {g : Bool} (h : fldI P s f = some (o, sz, g)) (b k : Nat) (w : World) :
    (Instr.fieldAt s (.pointer (some ⟨b, k, none⟩)) f).run P w = .ok (.pointer (some ⟨b, k + o, none⟩)) w := by
  obtain ⟨fs, fd, h1, h2, rfl, h4, h5⟩ := fldI_some h
  obtain ⟨i, d, hi, hd, rfl, _, _⟩ := tyI_some h4
  have hadd : (⟨b, k, none⟩ : Addr).add fd.offset = ⟨b, k + fd.offset, none⟩ := by unfold Addr.add; split <;> simp_all
  simp [Instr.fieldAt, run_underlying h1, h2, Instr.sureAddr, fieldPlace, run_sizeOf hi, h5, hadd]

theorem opFieldAddr_all {E : Tab} (hE : E.ok P) {s : TypeId} {f : Nat} {x : T} {X : Value} (hX : RT c w x X) (hk : opFieldAddr E K s f x) :
    ∃ v V, K v [] ∧ (∀ w' : World, (Instr.fieldAt s X f).run P w' = .ok V w') ∧ RT c w v V := by
  unfold opFieldAddr at hk
  split at hk
  case h_2 => exact hk.elim
  rename_i o sz g hf
  replace hf := Tab.fld_ok hE hf
  split at hk
  · obtain ⟨hX, _⟩ := hX
    cases hX with | ptr hp => exact ⟨_, _, hk, fun w' => run_fieldAt hf _ _ w', .ptr hp, rfl⟩
  · obtain ⟨hX, _⟩ := hX
    cases hX with | eptr hp => exact ⟨_, _, hk, fun w' => run_fieldAt hf _ _ w', by rw [Nat.add_assoc]; exact .eptr hp, rfl⟩
  · obtain ⟨hX, _⟩ := hX
    cases hX with | bptr b o' vals a1 a0 a2 a3 a4 => exact ⟨_, _, hk, fun w' => run_fieldAt hf _ _ w', by rw [Nat.add_assoc]; exact .bptr b o' vals a1 a0 a2 a3 a4, rfl⟩
  · exact hk.elim

theorem opFieldAddr_ok {E : Tab} (hE : E.ok P) {s : TypeId} {f : Nat} {x : T} {X : Value} (hX : RT c w x X) (hk : opFieldAddr E K s f x) :
    ∃ v V, K v [] ∧ (Instr.fieldAt s X f).run P w = .ok V w ∧ RT c w v V :=
  let ⟨v, V, h1, h2, h3⟩ := opFieldAddr_all hE hX hk
  ⟨v, V, h1, h2 w, h3⟩

theorem run_part {t sz : Nat} {g : Bool} (h : tyI P t = some (sz, g)) (cs : Array Value) (o : Nat) (hl : o + sz ≤ cs.size) (w : World) :
    (part t cs o).run P w = .ok (if g then .agg ((cs.toList.drop o).take sz).toArray else ((cs.toList.drop o).take sz).headD default) w := by
  obtain ⟨i, d, hi, hd, rfl, rfl, h1⟩ := tyI_some h
  cases hg : aggD d with
  | true =>
    simp [part, run_isAgg hd, hg, run_sizeOf hi]
    apply Array.ext'
    simp [List.take_drop, Nat.add_comm]
  | false =>
    have h2 := h1 hg
    have h3 : o < cs.size := by omega
    simp [part, run_isAgg hd, hg, h3, h2]
    rw [List.drop_eq_getElem_cons (by simpa using h3)]
    simp

theorem opField_ok {E : Tab} (hE : E.ok P) {s : TypeId} {f : Nat} {x : T} {X : Value} (hX : RT c w x X) (hk : opField E K s f x) :
    ∃ v V, K v [] ∧ (Instr.field s X f).run P w = .ok V w ∧ RT c w v V := by
  unfold opField at hk
  split at hk
  case h_2 => exact hk.elim
  rename_i o sz g hf
  replace hf := Tab.fld_ok hE hf
  split at hk
  case h_2 => exact hk.elim
  rename_i xs
  split at hk
  case isFalse => exact hk.elim
  rename_i hle
  cases X with
  | agg cs =>
    have hR : RL c w xs cs.toList := hX
    have hl := hR.length
    obtain ⟨fs, fd, h1, h2, rfl, h4, h5⟩ := fldI_some hf
    obtain ⟨i, d, _, _, _, _, hg⟩ := tyI_some h4
    refine ⟨_, _, hk, ?_, RT_mkT hg (by simp; omega) ((hR.drop fd.offset).take sz)⟩
    simp only [Instr.field, Sem.run_bind, run_underlying h1, Result.andThen_ok, h2, asAgg, Sem.run_pure]
    exact run_part h4 cs _ (by simpa [hl] using hle) w
  | _ => exact hX.elim

theorem elI_some {t e sz by_ : Nat} (h : elI P t = some (e, sz, by_)) : ∃ i, P.underlying t = some (.slice e) ∧ P.info? e = some i ∧ i.size = sz ∧ i.bytes = by_ ∧ sz ≠ 0 := by
  unfold elI at h
  split at h
  · rename_i e' hs
    split at h
    · rename_i i hi
      split at h
      · cases h
      · simp at h; obtain ⟨rfl, rfl, rfl⟩ := h; exact ⟨i, hs, hi, rfl, rfl, by assumption⟩
    · cases h
  · cases h

theorem run_indexAt {t e sz by_ : Nat} (h : elI P t = some (e, sz, by_)) (b o len cap : Nat) (k : IntKind) (i : Int) (h0 : 0 ≤ i) (h1 : i < len) (w : World) :
    (Instr.indexAt t (.slice (some ⟨b, o, none⟩) len cap) (.int k i)).run P w = .ok (.pointer (some ⟨b, o + i.toNat * sz, none⟩)) w := by
  obtain ⟨inf, hu, hi, rfl, _, _⟩ := elI_some h
  have hadd : (⟨b, o, none⟩ : Addr).add (i.toNat * inf.size) = ⟨b, o + i.toNat * inf.size, none⟩ := by unfold Addr.add; split <;> simp_all
  simp [Instr.indexAt, asIntOf, run_underlying hu, h0, h1, run_sizeOf hi, hadd]

theorem rowIndex_all {t e sz by_ : Nat} (he : elI P t = some (e, sz, by_)) {own : Bool} {es : List (List AV)} {X : Value} (hX : R c w (.row own sz es) X) {ik : IntKind} {qn : Nat} {e' : List AV} (he' : es[qn]? = some e') :
    ∃ V, (∀ w' : World, (Instr.indexAt t X (.int ik (qn : Int))).run P w' = .ok V w') ∧ RT c w (.one (.bptr e' 0)) V := by
    cases hX with
    | @row _ _ _ A cap b o vals a1 a2 a3 a4 a0 a5 a6 a7 =>
      obtain ⟨hlt, rfl⟩ := List.getElem?_eq_some_iff.1 he'
      obtain ⟨rfl, hIb⟩ := a3 (by omega)
      refine ⟨_, fun w' => run_indexAt he _ _ _ _ _ _ (by omega) (by omega) w', ?_, rfl⟩
      have hx : ∀ (k : Nat) (x : AV), es[qn][k]? = some x → elt es qn k = some x := fun k x hx => by simp [elt, hlt, hx]
      have := R.bptr (c := c) (w := w) (xs := es[qn]) (j := 0) b (o + qn * sz) (fun k => vals qn k) hIb
        (fun k x hk => by have := a0 _ _ _ (hx k x hk); cases x <;> simp_all [AV.isCell, AV.isFree]) (fun k x hk => a5 _ _ _ (hx k x hk)) (fun k x hk => a6 _ _ _ (hx k x hk)) (fun k x hk => a7 _ _ _ (hx k x hk))
      simpa using this

theorem opIndexAddr_all {E : Tab} (hE : E.ok P) (h : H w0 L n σ a w c F) {m : Nat → Option Blk} (hm : Sup σ m) {t : TypeId} {x i : T} {X I : Value} (hX : RT c w x X) (hI : RT c w i I) (hk : opIndexAddr E m K t x i) :
    ∃ v V, K v [] ∧ (∀ w' : World, (Instr.indexAt t X I).run P w' = .ok V w') ∧ RT c w v V := by
  unfold opIndexAddr at hk
  split at hk
  case h_2 => exact hk.elim
  rename_i e sz by_ he
  replace he := Tab.el_ok hE he
  split at hk
  · rename_i s off len ik q
    obtain ⟨qn, rfl, h1, hk⟩ := hk
    split at hk
    case h_2 => exact hk.elim
    rename_i p rz es hs
    split at hk
    case isFalse => exact hk.elim
    rename_i hrz
    subst hrz
    obtain ⟨hX, _⟩ := hX
    obtain ⟨hI, _⟩ := hI
    cases hI
    cases hX with
    | locnil hn => exact absurd h1 (by simp)
    | @loc _ _ _ b cap sz A hat hle hA =>
      replace hs := h.look hm hat hs
      have hsz : sz = rz := by
        rcases h.mem s _ hs with ⟨h1, _⟩ | ⟨b', cap', h1, _⟩ <;> rw [hat] at h1 <;> cases h1
        rfl
      subst hsz
      have := hA (by omega)
      subst this
      refine ⟨_, _, hk, fun w' => run_indexAt he _ _ _ _ _ _ (by omega) (by omega) w', ?_, rfl⟩
      rw [show off * sz + ((qn : Int)).toNat * sz = (off + qn) * sz + 0 by rw [Nat.add_mul, Int.toNat_natCast]; omega]
      exact .eptr hat
  · rename_i own rz es ik q
    split at hk
    case isFalse => exact hk.elim
    rename_i hrz
    subst hrz
    obtain ⟨qn, rfl, e', he', hk⟩ := hk
    obtain ⟨hX, _⟩ := hX
    obtain ⟨hI, _⟩ := hI
    cases hI
    obtain ⟨V, h1, h2⟩ := rowIndex_all he hX he'
    exact ⟨_, _, hk, h1, h2⟩
  · rename_i A len cap ik q
    obtain ⟨s, o, es, hs, qn, rfl, e', he', hk⟩ := hk
    obtain ⟨hX, _⟩ := hX
    obtain ⟨hI, _⟩ := hI
    cases hI
    cases hX
    obtain ⟨a2, a3, a4⟩ := h.par s _ _ (hm.2 s _ rfl hs)
    obtain ⟨V, h1, h2⟩ := rowIndex_all he (R.free (c' := c) (fun b hb => a4 b hb) (fun b (hb : oldB w0 L b) => h.keeps.block b hb.1 hb.2) a3 a2) he'
    exact ⟨_, _, hk, h1, h2⟩
  · exact hk.elim
theorem opIndexAddr_ok {E : Tab} (hE : E.ok P) (h : H w0 L n σ a w c F) {m : Nat → Option Blk} (hm : Sup σ m) {t : TypeId} {x i : T} {X I : Value} (hX : RT c w x X) (hI : RT c w i I) (hk : opIndexAddr E m K t x i) :
    ∃ v V, K v [] ∧ (Instr.indexAt t X I).run P w = .ok V w ∧ RT c w v V :=
  let ⟨v, V, h1, h2, h3⟩ := opIndexAddr_all hE h hm hX hI hk
  ⟨v, V, h1, h2 w, h3⟩

end
end Go.Proofs.Ytlijeincckbdaaa
namespace Go.Proofs.Ytlijeincckbdaaa
open Go.RowKit
set_option linter.unusedSimpArgs false
set_option linter.unusedVariables false

section
variable {P : Program} {w0 w : World} {L : Nat → Prop} {n : Nat} {σ : AS} {a : Act} {c : Ctx} {F : Nat → Nat → Prop} {K : T → News → Prop}

theorem toList_beq (a b : ByteArray) : (a.toList == b.toList) = decide (a = b) := by
  rw [ByteArray.toList_eq, ByteArray.toList_eq]
  rw [Bool.eq_iff_iff]
  simp only [beq_iff_eq, decide_eq_true_eq]
  constructor
  · intro h
    cases a; cases b
    simp at h
    simp [h]
  · rintro rfl; rfl

theorem one_lit {v V : Value} (h : RT c w (.one (.lit v)) V) : V = v := by
  obtain ⟨h, _⟩ := h
  cases h; rfl

theorem RT_lit (v : Value) (h : v.oneCell' = true) : RT c w (.one (.lit v)) v := ⟨.lit v, h⟩

theorem opIndex_ok {E : Tab} (hE : E.ok P) {t : TypeId} {x i : T} {X I : Value} (hX : RT c w x X) (hI : RT c w i I) (hk : opIndex E K t x i) :
    ∃ v V, K v [] ∧ (Instr.index t X I).run P w = .ok V w ∧ RT c w v V := by
  unfold opIndex at hk
  split at hk
  case h_2 => exact hk.elim
  rename_i s ik m hs
  obtain ⟨qn, rfl, h1, hk⟩ := hk
  obtain rfl := one_lit hX
  obtain rfl := one_lit hI
  have hu : P.underlying t = some .string := Tab.str_ok hE hs
  refine ⟨_, _, hk, ?_, RT_lit _ rfl⟩
  simp [Instr.index, asIntOf, run_underlying hu, h1]
  congr 1

theorem optInt_some {o : Option T} {x : Option Int} (h : optInt o = some x) : (o = none ∧ x = none) ∨ ∃ k n, o = some (.one (.lit (.int k n))) ∧ x = some n := by
  unfold optInt at h
  split at h
  · cases h; exact .inl ⟨rfl, rfl⟩
  · cases h; exact .inr ⟨_, _, rfl, rfl⟩
  · cases h

/-- An operand that may be missing. -/
def ROT (c : Ctx) (w : World) : Option T → Option Value → Prop
  | none, none => True
  | some t, some v => RT c w t v
  | _, _ => False

theorem optInt_val {o : Option T} {x : Option Int} (h : optInt o = some x) {O : Option Value} (hO : ROT c w o O) : (O = none ∧ x = none) ∨ ∃ k n, O = some (.int k n) ∧ x = some n := by
  rcases optInt_some h with ⟨rfl, rfl⟩ | ⟨k, n, rfl, rfl⟩
  · cases O with
    | none => exact .inl ⟨rfl, rfl⟩
    | some v => exact hO.elim
  · cases O with
    | none => exact hO.elim
    | some v => exact .inr ⟨k, n, by rw [one_lit hO], rfl⟩

theorem run_bounds {len cap : Nat} {lo hi : Option Value} {l h : Option Int} (hl : (lo = none ∧ l = none) ∨ ∃ k n, lo = some (.int k n) ∧ l = some n) (hh : (hi = none ∧ h = none) ∨ ∃ k n, hi = some (.int k n) ∧ h = some n)
    (h0 : 0 ≤ l.getD 0) (h1 : l.getD 0 ≤ h.getD len) (h2 : h.getD len ≤ (len : Int)) (hc : len ≤ cap) (g : Bool) (w : World) :
    (Instr.sliceBounds g len cap lo hi none).run P w = .ok ((l.getD 0).toNat, (h.getD len).toNat, cap) w := by
  rcases hl with ⟨rfl, rfl⟩ | ⟨k, m, rfl, rfl⟩ <;> rcases hh with ⟨rfl, rfl⟩ | ⟨k', m', rfl, rfl⟩
  · simp [Instr.sliceBounds]
  · have e1 : (0 : Int) ≤ m' := by simpa using h1
    have e2 : m' ≤ (cap : Int) := by simp at h2; omega
    simp [Instr.sliceBounds, run_sliceBound, e1, e2]
  · have e1 : (0 : Int) ≤ m := by simpa using h0
    have e2 : m ≤ (len : Int) := by simpa using h1
    simp [Instr.sliceBounds, run_sliceBound, e1, e2]
  · have e1 : (0 : Int) ≤ m := by simpa using h0
    have e2 : m ≤ m' := by simpa using h1
    have e3 : m' ≤ (cap : Int) := by simp at h2; omega
    have e4 : (0 : Int) ≤ m' := by omega
    have e5 : m ≤ ((m'.toNat : Nat) : Int) := by omega
    simp only [Instr.sliceBounds, Sem.run_bind, Sem.run_pure, Result.andThen_ok, run_sliceBound w k' m' cap _ e4 e3, Bool.false_eq_true, if_false, Option.isSome_none, run_sliceBound w k m m'.toNat _ e1 e5, Option.getD_some]

/-- .. in whatever world. -/
theorem opSlice_all {E : Tab} (hE : E.ok P) (h : H w0 L n σ a w c F) {m : Nat → Option Blk} (hm : Sup σ m) {t : TypeId} {x : T} {lo hi : Option T} {X : Value} {LO HI : Option Value} (hX : RT c w x X) (hlo : ROT c w lo LO) (hhi : ROT c w hi HI) (hk : opSlice E m K t x lo hi) :
    ∃ v V, K v [] ∧ (∀ w' : World, (Instr.sliceAt t X LO HI none).run P w' = .ok V w') ∧ RT c w v V := by
  unfold opSlice at hk
  split at hk
  case h_2 => exact hk.elim
  rename_i l hh hl1 hh1
  have hl2 := optInt_val hl1 hlo
  have hh2 := optInt_val hh1 hhi
  split at hk
  · rename_i hs
    have hu : P.underlying t = some .string := Tab.str_ok hE hs
    split at hk
    case h_2 => exact hk.elim
    rename_i s
    obtain ⟨h0, h1, h2, _, rfl, hk⟩ := hk
    obtain rfl := one_lit hX
    refine ⟨_, _, hk, ?_, RT_lit _ rfl⟩
    intro w'
    simp [run_sliceAt_string, hu, Instr.slice, run_underlying hu, run_bounds hl2 hh2 h0 h1 h2 (Nat.le_refl _)]
  · split at hk
    case h_2 => exact hk.elim
    rename_i e sz by_ he
    replace he := Tab.el_ok hE he
    obtain ⟨inf, hu, hi', rfl, _, hne⟩ := elI_some he
    have hsl : ∀ (lo hi mx : Option Value) (X : Value) (w' : World), (Instr.sliceAt t X lo hi mx).run P w' = (Instr.slice t X lo hi mx).run P w' := fun lo hi mx X w' => by simp [Instr.sliceAt, run_underlying hu]
    split at hk
    · rename_i s off len
      obtain ⟨h0, h1, h2, hk⟩ := hk
      split at hk
      case h_2 => exact hk.elim
      rename_i p rz es hs
      split at hk
      case isFalse => exact hk.elim
      rename_i hrz
      subst hrz
      obtain ⟨_, _, rfl, rfl, hk⟩ := hk
      obtain ⟨hX, _⟩ := hX
      cases hX with
      | locnil hn =>
        have e1 : l.getD 0 = 0 := by simp at h1 h2; omega
        have e2 : hh.getD ((0 : Nat) : Int) = 0 := by simp at h1 h2 ⊢; omega
        refine ⟨_, .slice none 0 0, hk, ?_, ?_⟩
        · intro w'
          rw [hsl]
          have e3 : hh.getD 0 = 0 := e2
          simp [Instr.slice, run_underlying hu, run_bounds hl2 hh2 h0 h1 h2 (Nat.le_refl _), run_sizeOf hi', e1, e3]
        · rw [e1, e2]
          exact ⟨.locnil hn, rfl⟩
      | @loc _ _ _ b cap sz A hat hle hA =>
        have hb := h.mem s _ (h.look hm hat hs)
        have hsz : sz = inf.size := by
          rcases hb with ⟨h1, _⟩ | ⟨b', cap', h1, _⟩ <;> rw [hat] at h1 <;> cases h1
          rfl
        subst hsz
        have e1 : ((l.getD 0).toNat : Int) = l.getD 0 := Int.toNat_of_nonneg h0
        have e2 : ((hh.getD (len : Int)).toNat : Int) = hh.getD (len : Int) := Int.toNat_of_nonneg (by omega)
        refine ⟨_, .slice (if cap - off = (l.getD 0).toNat then A else A.map (·.add ((l.getD 0).toNat * inf.size))) ((hh.getD (len : Int)).toNat - (l.getD 0).toNat) (cap - off - (l.getD 0).toNat), hk, ?_, ?_⟩
        · intro w'
          rw [hsl]
          simp only [Instr.slice, Sem.run_bind, run_underlying hu, Result.andThen_ok, run_bounds (cap := cap - off) hl2 hh2 h0 h1 h2 (by omega), run_sizeOf hi', Sem.run_pure]
        · refine ⟨?_, rfl⟩
          rw [show cap - off - (l.getD 0).toNat = cap - (off + (l.getD 0).toNat) by omega]
          refine .loc hat (by omega) fun hlt => ?_
          rw [if_neg (by omega)]
          rw [hA (by omega)]
          have hadd : (⟨b, off * inf.size, none⟩ : Addr).add ((l.getD 0).toNat * inf.size) = ⟨b, (off + (l.getD 0).toNat) * inf.size, none⟩ := by
            rw [Nat.add_mul]; unfold Addr.add; split <;> simp_all
          simp [hadd]
    · rename_i own rz es
      obtain ⟨h0, h1, h2, hk⟩ := hk
      split at hk
      case isFalse => exact hk.elim
      rename_i hrz
      subst hrz
      obtain ⟨_, rfl, hk⟩ := hk
      obtain ⟨hX, _⟩ := hX
      cases hX with
      | @row _ _ _ A cap b o vals a1 a2 a3 a4 a0 a5 a6 a7 =>
        have e1 : ((l.getD 0).toNat : Int) = l.getD 0 := Int.toNat_of_nonneg h0
        have e2 : ((hh.getD (es.length : Int)).toNat : Int) = hh.getD (es.length : Int) := Int.toNat_of_nonneg (by omega)
        refine ⟨_, .slice (if cap = (l.getD 0).toNat then A else A.map (·.add ((l.getD 0).toNat * inf.size))) ((hh.getD (es.length : Int)).toNat - (l.getD 0).toNat) (cap - (l.getD 0).toNat), hk, ?_, ?_⟩
        · intro w'
          rw [hsl]
          simp only [Instr.slice, Sem.run_bind, run_underlying hu, Result.andThen_ok, run_bounds (cap := cap) hl2 hh2 h0 h1 h2 a1, run_sizeOf hi', Sem.run_pure]
        · refine ⟨?_, rfl⟩
          have hel : ∀ (i j : Nat) (x : AV), elt (List.take ((hh.getD (es.length : Int)).toNat - (l.getD 0).toNat) (List.drop (l.getD 0).toNat es)) i j = some x → elt es ((l.getD 0).toNat + i) j = some x := fun i j x hx => by
            unfold elt at hx ⊢
            rw [List.getElem?_take] at hx
            split at hx
            · rwa [List.getElem?_drop] at hx
            · simp at hx
          have hlen : (hh.getD (es.length : Int)).toNat - (l.getD 0).toNat = (List.take ((hh.getD (es.length : Int)).toNat - (l.getD 0).toNat) (List.drop (l.getD 0).toNat es)).length := by
            rw [List.length_take, List.length_drop]; omega
          have key := R.row (c := c) (w := w) (own := false) (sz := inf.size) (es := List.take ((hh.getD (es.length : Int)).toNat - (l.getD 0).toNat) (List.drop (l.getD 0).toNat es)) (A := if cap = (l.getD 0).toNat then A else A.map (·.add ((l.getD 0).toNat * inf.size))) (cap := cap - (l.getD 0).toNat) b (o + (l.getD 0).toNat * inf.size) (fun i j => vals ((l.getD 0).toNat + i) j)
            (by rw [← hlen]; omega) (by omega) (fun hlt => by
              rw [← hlen] at hlt
              obtain ⟨rfl, hI⟩ := a3 (by omega)
              refine ⟨?_, hI⟩
              rw [if_neg (by omega)]
              exact congrArg some (Addr.add_lit b o _)) (fun e he => a4 e (List.mem_of_mem_drop (List.mem_of_mem_take he))) (fun i j x hx => a0 _ _ _ (hel i j x hx))
            (fun i j x hx => by have := a5 _ _ _ (hel i j x hx); rw [Nat.add_mul] at this; rw [← this]; congr 2; omega) (fun i j x hx => a6 _ _ _ (hel i j x hx)) (fun i j x hx => a7 _ _ _ (hel i j x hx))
          rw [← hlen] at key
          exact key
    · exact hk.elim
  · exact hk.elim
theorem opSlice_ok {E : Tab} (hE : E.ok P) (h : H w0 L n σ a w c F) {m : Nat → Option Blk} (hm : Sup σ m) {t : TypeId} {x : T} {lo hi : Option T} {X : Value} {LO HI : Option Value} (hX : RT c w x X) (hlo : ROT c w lo LO) (hhi : ROT c w hi HI) (hk : opSlice E m K t x lo hi) :
    ∃ v V, K v [] ∧ (Instr.sliceAt t X LO HI none).run P w = .ok V w ∧ RT c w v V :=
  let ⟨v, V, h1, h2, h3⟩ := opSlice_all hE h hm hX hlo hhi hk
  ⟨v, V, h1, h2 w, h3⟩

theorem opBin_all {E : Tab} (hE : E.ok P) {op : BinOp} {t : TypeId} {x y : T} {X Y : Value} (hX : RT c w x X) (hY : RT c w y Y) (hk : opBin E K op t x y) :
    ∃ v V, K v [] ∧ (∀ w' : World, (binOp op t X Y).run P w' = .ok V w') ∧ RT c w v V := by
  unfold opBin at hk
  split at hk
  · obtain rfl := one_lit hX
    obtain rfl := one_lit hY
    split at hk
    · obtain ⟨h0, _, rfl, hk⟩ := hk
      have h0 := Int.not_lt.2 h0
      exact ⟨_, _, hk, fun w' => by simp [binOp, Op.shift, h0], RT_lit _ rfl⟩
    · obtain ⟨h0, _, rfl, hk⟩ := hk
      have h0 := Int.not_lt.2 h0
      exact ⟨_, _, hk, fun w' => by simp [binOp, Op.shift, h0], RT_lit _ rfl⟩
    split at hk
    case isFalse => exact hk.elim
    rename_i hkk
    subst hkk
    split at hk
    · obtain ⟨_, rfl, hk⟩ := hk; exact ⟨_, _, hk, fun w' => by simp [binOp, Op.intArith], RT_lit _ rfl⟩
    · obtain ⟨_, rfl, hk⟩ := hk; exact ⟨_, _, hk, fun w' => by simp [binOp, Op.intArith], RT_lit _ rfl⟩
    · obtain ⟨_, rfl, hk⟩ := hk; exact ⟨_, _, hk, fun w' => by simp [binOp, Op.intArith], RT_lit _ rfl⟩
    · obtain ⟨h0, _, rfl, hk⟩ := hk; exact ⟨_, _, hk, fun w' => by simp [binOp, Op.intDiv, h0], RT_lit _ rfl⟩
    · obtain ⟨h0, _, rfl, hk⟩ := hk; exact ⟨_, _, hk, fun w' => by simp [binOp, Op.intDiv, h0], RT_lit _ rfl⟩
    all_goals (try exact hk.elim)
    all_goals (refine ⟨_, _, hk, ?_, RT_lit _ rfl⟩; intro w')
    all_goals first
      | (simp [binOp, Op.intArith]; done)
      | (simp [binOp, Op.intBits, bits]; done)
      | (simp [binOp, Op.intCmp]; done)
      | (simp only [binOp, Op.intCmp, ne_eq, not_true_eq_false, if_false, Sem.run_pure]; congr 2; (try rfl); (try (rw [Bool.eq_iff_iff]; simp)))
  · obtain rfl := one_lit hX
    obtain rfl := one_lit hY
    split at hk
    · obtain ⟨h0, hk⟩ := hk
      exact ⟨_, _, hk, fun w' => by simp only [binOp]; exact run_string_add_sum w' _ _ h0, RT_lit _ rfl⟩
    all_goals first
      | exact hk.elim
      | (refine ⟨_, _, hk, ?_, RT_lit _ rfl⟩; intro w'; simp [binOp, Op.stringOp, toList_beq, sless]; done)
  · obtain rfl := one_lit hY
    obtain ⟨hX, _⟩ := hX
    cases hX with | nn hX =>
    split at hk
    · rename_i hs; obtain ⟨e, hu⟩ := Tab.sl_ok hE hs
      exact ⟨_, _, hk, fun w' => by rw [Go.Lib.run_eql_slice_nil w' t e _ _ _ _ _ hu]; rfl, RT_lit _ rfl⟩
    · rename_i hs; obtain ⟨e, hu⟩ := Tab.sl_ok hE hs
      exact ⟨_, _, hk, fun w' => by rw [run_neq_slice_nil w' t e _ _ _ hu]; rfl, RT_lit _ rfl⟩
    · exact hk.elim
  · obtain rfl := one_lit hX
    obtain rfl := one_lit hY
    split at hk
    · rename_i hs; obtain ⟨e, hu⟩ := Tab.sl_ok hE hs
      exact ⟨_, _, hk, fun w' => by rw [Go.Lib.run_eql_slice_nil w' t e _ _ _ _ _ hu]; rfl, RT_lit _ rfl⟩
    · rename_i hs; obtain ⟨e, hu⟩ := Tab.sl_ok hE hs
      exact ⟨_, _, hk, fun w' => by rw [run_neq_slice_nil w' t e _ _ _ hu]; rfl, RT_lit _ rfl⟩
    · exact hk.elim
  · obtain rfl := one_lit hX
    obtain rfl := one_lit hY
    split at hk
    case h_2 => exact hk.elim
    rename_i hu
    replace hu := Tab.bool_ok hE hu
    split at hk
    · exact ⟨_, _, hk, fun w' => run_eql_bool w' t _ _ hu, RT_lit _ rfl⟩
    · exact ⟨_, _, hk, fun w' => run_neq_bool w' t _ _ hu, RT_lit _ rfl⟩
    · exact hk.elim
  · exact hk.elim

theorem opBin_ok {E : Tab} (hE : E.ok P) {op : BinOp} {t : TypeId} {x y : T} {X Y : Value} (hX : RT c w x X) (hY : RT c w y Y) (hk : opBin E K op t x y) :
    ∃ v V, K v [] ∧ (binOp op t X Y).run P w = .ok V w ∧ RT c w v V :=
  let ⟨v, V, h1, h2, h3⟩ := opBin_all hE hX hY hk
  ⟨v, V, h1, h2 w, h3⟩

theorem opUn_all {op : UnOp} {x : T} {X : Value} (hX : RT c w x X) (hk : opUn K op x) :
    ∃ v V, K v [] ∧ (∀ w' : World, (Op.unary op X).run P w' = .ok V w') ∧ RT c w v V := by
  unfold opUn at hk
  split at hk
  · obtain rfl := one_lit hX
    exact ⟨_, _, hk, fun w' => rfl, RT_lit _ rfl⟩
  · obtain rfl := one_lit hX
    obtain ⟨_, rfl, hk⟩ := hk
    exact ⟨_, _, hk, fun w' => rfl, RT_lit _ rfl⟩
  · obtain rfl := one_lit hX
    exact ⟨_, _, hk, fun w' => rfl, RT_lit _ rfl⟩
  · exact hk.elim

theorem opUn_ok {op : UnOp} {x : T} {X : Value} (hX : RT c w x X) (hk : opUn K op x) :
    ∃ v V, K v [] ∧ (Op.unary op X).run P w = .ok V w ∧ RT c w v V :=
  let ⟨v, V, h1, h2, h3⟩ := opUn_all hX hk
  ⟨v, V, h1, h2 w, h3⟩

theorem opConv_ok {E : Tab} (hE : E.ok P) {src dst : TypeId} {x : T} {X : Value} (hX : RT c w x X) (hk : opConv E K src dst x) :
    ∃ v V, K v [] ∧ (convert src dst X).run P w = .ok V w ∧ RT c w v V := by
  unfold opConv at hk
  split at hk
  · obtain rfl := one_lit hX
    split at hk
    case h_2 => exact hk.elim
    rename_i k _ hi hs
    obtain ⟨_, rfl, hk⟩ := hk
    have hu : P.underlying dst = some (.int k) := Tab.int_ok hE hi
    replace hs := Tab.some_ok hE hs
    obtain ⟨d, hd'⟩ := Option.isSome_iff_exists.mp hs
    exact ⟨_, _, hk, by simp [convert, run_underlying hd', run_underlying hu, Conv.intToInt], RT_lit _ rfl⟩
  · obtain rfl := one_lit hX
    split at hk
    case h_2 => exact hk.elim
    rename_i _ hi hs
    have hu : P.underlying dst = some .string := Tab.str_ok hE hi
    replace hs := Tab.some_ok hE hs
    obtain ⟨d, hd'⟩ := Option.isSome_iff_exists.mp hs
    exact ⟨_, _, hk, by simp [convert, run_underlying hd', run_underlying hu], RT_lit _ rfl⟩
  · exact hk.elim

theorem opExtract_all {i : Nat} {x : T} {X : Value} (hX : RT c w x X) (hk : opExtract K x i) :
    ∃ v V, K v [] ∧ (∀ w' : World, (Instr.extract X i).run P w' = .ok V w') ∧ RT c w v V := by
  unfold opExtract at hk
  split at hk
  case h_2 => exact hk.elim
  rename_i ts
  cases X with
  | tuple vs =>
    have hR : RTs c w ts vs.toList := hX
    have key : ∀ (ts : List (Bool × List AV)) (vs : List Value), RTs c w ts vs → ∀ i : Nat, (∀ y, ts[i]? = some (false, [y]) → ∃ v, vs[i]? = some v ∧ R c w y v ∧ v.oneCell' = true) ∧ (∀ ys, ts[i]? = some (true, ys) → ∃ us : Array Value, vs[i]? = some (Value.agg us) ∧ RL c w ys us.toList) := by
      intro ts
      induction ts with
      | nil => intro vs _ i; simp
      | cons t ts ih =>
        intro vs h i
        match t, vs, h with
        | (false, [x]), v :: vs, h =>
          cases i with
          | zero => exact ⟨fun y hy => by simp at hy; subst hy; exact ⟨v, rfl, h.1⟩, fun ys hy => by simp at hy⟩
          | succ i => simpa using ih vs h.2 i
        | (true, ys), .agg us :: vs, h =>
          cases i with
          | zero => exact ⟨fun y hy => by simp at hy, fun ys' hy => by simp at hy; subst hy; exact ⟨us, rfl, h.1⟩⟩
          | succ i => simpa using ih vs h.2 i
    split at hk
    · rename_i y hy
      obtain ⟨v, hv, h1⟩ := (key ts _ hR i).1 y hy
      have hv' : vs[i]? = some v := by simpa using hv
      exact ⟨_, _, hk, fun w' => by simp [Instr.extract, hv'], h1⟩
    · rename_i ys hy
      obtain ⟨v, hv, h1⟩ := (key ts _ hR i).2 ys hy
      have hv' : vs[i]? = some (.agg v) := by simpa using hv
      exact ⟨_, .agg v, hk, fun w' => by simp [Instr.extract, hv'], h1⟩
    · exact hk.elim
  | _ => exact hX.elim

theorem opExtract_ok {i : Nat} {x : T} {X : Value} (hX : RT c w x X) (hk : opExtract K x i) :
    ∃ v V, K v [] ∧ (Instr.extract X i).run P w = .ok V w ∧ RT c w v V :=
  let ⟨v, V, h1, h2, h3⟩ := opExtract_all hX hk
  ⟨v, V, h1, h2 w, h3⟩

theorem opLen_all {E : Tab} (hE : E.ok P) {t ty : TypeId} {x : T} {X : Value} (hX : RT c w x X) (hk : opLen E K t x) :
    ∃ v V, K v [] ∧ (∀ w' : World, (Builtin.len_ #[t] ty #[X]).run P w' = .ok V w') ∧ RT c w v V := by
  unfold opLen at hk
  split at hk
  · rename_i hi
    obtain rfl := one_lit hX
    have hu := Tab.str_ok hE hi
    exact ⟨_, _, hk, fun w' => by simp [Builtin.len_, run_underlying hu, goInt], RT_lit _ rfl⟩
  · rename_i hi
    obtain ⟨e, hu⟩ := Tab.sl_ok hE hi
    obtain ⟨hX, _⟩ := hX
    cases hX with
    | loc => exact ⟨_, _, hk, fun w' => by simp [Builtin.len_, run_underlying hu, goInt], RT_lit _ rfl⟩
    | locnil => exact ⟨_, _, hk, fun w' => by simp [Builtin.len_, run_underlying hu, goInt], RT_lit _ rfl⟩
  · rename_i hi
    obtain ⟨e, hu⟩ := Tab.sl_ok hE hi
    obtain ⟨hX, _⟩ := hX
    cases hX with
    | row => exact ⟨_, _, hk, fun w' => by simp [Builtin.len_, run_underlying hu, goInt], RT_lit _ rfl⟩
  · rename_i hi
    obtain ⟨e, hu⟩ := Tab.sl_ok hE hi
    obtain ⟨hX, _⟩ := hX
    cases hX with | nn hX =>
    cases hX with
    | row => exact ⟨_, _, hk, fun w' => by simp [Builtin.len_, run_underlying hu, goInt], RT_lit _ rfl⟩
  · rename_i hi
    obtain ⟨e, hu⟩ := Tab.sl_ok hE hi
    obtain rfl := one_lit hX
    exact ⟨_, _, hk, fun w' => by simp [Builtin.len_, run_underlying hu, goInt], RT_lit _ rfl⟩
  · exact hk.elim

theorem opLen_ok {E : Tab} (hE : E.ok P) {t ty : TypeId} {x : T} {X : Value} (hX : RT c w x X) (hk : opLen E K t x) :
    ∃ v V, K v [] ∧ (Builtin.len_ #[t] ty #[X]).run P w = .ok V w ∧ RT c w v V :=
  let ⟨v, V, h1, h2, h3⟩ := opLen_all hE hX hk
  ⟨v, V, h1, h2 w, h3⟩

theorem opMinMax_ok {mx : Bool} {x y : T} {ts : Array TypeId} {ty : TypeId} {X Y : Value} (hX : RT c w x X) (hY : RT c w y Y) (hk : opMinMax K mx x y) :
    ∃ v V, K v [] ∧ (if mx then Builtin.max_ ts ty #[X, Y] else Builtin.min_ ts ty #[X, Y]).run P w = .ok V w ∧ RT c w v V := by
  unfold opMinMax at hk
  split at hk
  case h_2 => exact hk.elim
  obtain rfl := one_lit hX
  obtain rfl := one_lit hY
  cases mx with
  | true =>
    refine ⟨_, _, hk, ?_, RT_lit _ rfl⟩
    simp only [if_true, run_max_int2]
    congr 2
    omega
  | false =>
    refine ⟨_, _, hk, ?_, RT_lit _ rfl⟩
    simp only [Bool.false_eq_true, if_false, run_min_int2]
    congr 2
    omega

theorem opNilCheck_ok {x : T} {X : Value} (hX : RT c w x X) (hk : opNilCheck K x) : ∃ v, K v [] ∧ RT c w v X ∧ ((∃ p, X = .pointer (some p)) ∨ ∃ f cs, X = .func (.func f) #[] cs) := by
  unfold opNilCheck at hk
  split at hk
  · exact ⟨_, hk, hX, by obtain ⟨hX, _⟩ := hX; cases hX; exact .inl ⟨_, rfl⟩⟩
  · exact ⟨_, hk, hX, by obtain ⟨hX, _⟩ := hX; cases hX; exact .inl ⟨_, rfl⟩⟩
  · exact ⟨_, hk, hX, by obtain ⟨hX, _⟩ := hX; cases hX; exact .inl ⟨_, rfl⟩⟩
  · exact ⟨_, hk, hX, by obtain ⟨hX, _⟩ := hX; cases hX; exact .inr ⟨_, _, rfl⟩⟩
  · exact hk.elim

/-- Operands side by side. -/
def RTL (c : Ctx) (w : World) : List T → List Value → Prop
  | [], [] => True
  | t :: ts, v :: vs => RT c w t v ∧ RTL c w ts vs
  | _, _ => False

theorem ones_ok : ∀ {ts : List T} {vs : List Value} {xs : List AV}, RTL c w ts vs → ones ts = some xs → RL c w xs vs
  | [], [], _, _, h => by simp [ones] at h; subst h; trivial
  | .one x :: ts, v :: vs, xs, hR, h => by
    simp only [ones] at h
    cases ho : ones ts with
    | none => simp [ho] at h
    | some ys => simp [ho] at h; subst h; exact ⟨hR.1, ones_ok hR.2 ho⟩

theorem RL.ones : ∀ {xs : List AV} {vs : List Value}, RL c w xs vs → ∀ v ∈ vs, v.oneCell' = true
  | [], [], _, v, hv => by cases hv
  | _ :: _, _ :: _, h, v, hv => by
    cases hv with
    | head => exact h.1.2
    | tail _ hv => exact RL.ones h.2 v hv
theorem opMakeFunc_ok {fn : Fn} {ts : List T} {cs : List Value} (hX : RTL c w ts cs) {k : Nat} (hk : opMakeFunc K fn k ts) :
    ∃ v f, K v [] ∧ k = 0 ∧ fn = .func f ∧ RT c w v (.func (.func f) #[] cs.toArray) := by
  unfold opMakeFunc at hk
  split at hk
  case h_2 => exact hk.elim
  rename_i f xs hx
  have hR := ones_ok hX hx
  refine ⟨_, f, hk, rfl, rfl, .fn (by simp [hR.length]) (fun v hv => hR.ones v (by simpa using hv)) (fun i x v hx hv => (hR.at hx (by simpa using hv)).1), rfl⟩
end
end Go.Proofs.Ytlijeincckbdaaa
namespace Go.Proofs.Ytlijeincckbdaaa
open Go.RowKit
set_option linter.unusedSimpArgs false
set_option linter.unusedVariables false

section
variable {P : Program} {w0 w : World} {L : Nat → Prop} {n : Nat} {σ : AS} {a : Act} {c : Ctx} {F : Nat → Nat → Prop} {K : T → News → Prop}

theorem zrI_some {t : TypeId} {zs : List Value} (h : zrI P t = some zs) : ∃ i z, P.info? t = some i ∧ i.zero = some z ∧ z.cells.toList = zs ∧ zs.all (·.oneCell') = true := by
  unfold zrI at h
  split at h
  · rename_i i hi
    split at h
    · rename_i z hz
      split at h
      · rename_i ho; cases h; exact ⟨i, z, hi, hz, rfl, ho⟩
      · cases h
    · cases h
  · cases h

theorem opAlloc_ok {E : Tab} (hE : E.ok P) (h : H w0 L n σ a w c F) {site : Nat} {t : TypeId} (hk : opAlloc E K site t) :
    ∃ v news, K v news ∧ (Fresh σ.mem news → ∃ V w', (Instr.alloc t true undef).run P w = .ok V w' ∧ Post w0 L n σ a news v V w') := by
  unfold opAlloc at hk
  split at hk
  case h_2 => exact hk.elim
  rename_i zs hz
  obtain ⟨i, z, hi, hzz, rfl, hall⟩ := zrI_some (Tab.zr_ok hE hz)
  refine ⟨_, _, hk, fun hf => ?_⟩
  have hs := hf _ (List.mem_singleton.2 rfl)
  obtain ⟨c', F', hH, hat⟩ := h.newVar (C := z.cells) (e := t) hs (RL.lits c w _ hall)
  exact ⟨.pointer (some ⟨w.heap.size, 0, none⟩), _, by simp [Instr.alloc, zeroValue, typeInfo, hi, hzz, newVar, newRow, undef], c', F', hH, .ptr hat, rfl⟩

theorem RT_cells {x : T} {X : Value} {xs : List AV} (h : x.cells = some xs) (hX : RT c w x X) : RL c w xs X.cells.toList := by
  cases x with
  | one y =>
    simp [T.cells] at h; subst h
    obtain ⟨h1, h2⟩ := hX
    cases X <;> first | exact ⟨⟨h1, h2⟩, trivial⟩ | simp [Value.oneCell'] at h2
  | agg ys =>
    simp [T.cells] at h; subst h
    cases X <;> first | exact hX | exact hX.elim
  | dead => simp [T.cells] at h
  | tup => simp [T.cells] at h

theorem opBox_ok (h : H w0 L n σ a w c F) {site : Nat} {t : TypeId} {x : T} {X : Value} (hX : RT c w x X) (hk : opBox K site x) :
    ∃ v news, K v news ∧ (Fresh σ.mem news → ∃ V w', (Instr.box t X).run P w = .ok V w' ∧ Post w0 L n σ a news v V w') := by
  unfold opBox at hk
  split at hk
  case h_2 => exact hk.elim
  rename_i xs hx
  refine ⟨_, _, hk, fun hf => ?_⟩
  have hs := hf _ (List.mem_singleton.2 rfl)
  obtain ⟨c', F', hH, hat⟩ := h.newVar (C := X.cells) (e := t) hs (RT_cells hx hX)
  exact ⟨.pointer (some ⟨w.heap.size, 0, none⟩), _, by simp [Instr.box, newVar, newRow], c', F', hH, .ptr hat, rfl⟩

/-- A new row whose elements own nothing. -/
theorem H.newRow (h : H w0 L n σ a w c F) {w1 : World} (hb : Bel w.heap.size w w1) {s : Nat} (hs : σ.mem s = none) {p : Bool} {sz cap : Nat} {es : List (List AV)} {C : Array Value} {e : TypeId} {fz : Nat × Nat} {b : Nat}
    (hnew : w.heap.size ≤ b) (hC : w1.heap[b]? = some (.cells C e fz)) (hfz : Unfz sz C fz) (hcap : es.length ≤ cap) (hm : cap ≤ maxLen) (hsz : C.size = cap * sz) (hel : ∀ e ∈ es, e.length = sz)
    (hR : ∀ (i j : Nat) (x : AV) (v : Value), elt es i j = some x → C[i * sz + j]? = some v → (R c w x v ∧ v.oneCell' = true) ∧ (p = true → x.isData = true) ∧ (x.isCell = true → x.isData = true)) :
    ∃ c' F', H w0 L n (σ.add s (.row p sz es)) a w1 c' F' ∧ c'.at_ s = some (.row b cap sz) := by
  have hd := h.dom s hs
  refine ⟨_, _, h.addSite (i := .row b cap sz) (G := fun k => k = b) hb hs (fun k hk => by
    subst hk
    exact ⟨hnew, (Array.getElem?_eq_some_iff.1 hC).1⟩) ?_, by simp [Ctx.add]⟩
  obtain ⟨e1, e2⟩ := Ctx.add_ext hd.1 (.row b cap sz) (fun k => (fun k => k = b) k ∧ ¬ (SI.row b cap sz).isTop k)
  have hR' : ∀ (i j : Nat) (x : AV) (v : Value), elt es i j = some x → C[i * sz + j]? = some v → R (c.add s (.row b cap sz) (fun k => (fun k => k = b) k ∧ ¬ (SI.row b cap sz).isTop k)) w1 x v := fun i j x v hx hv =>
    (hR i j x v hx hv).1.1.mono e1 e2 (fun b hI => hb.block b (h.imm b hI))
  refine .inr ⟨b, cap, by simp [Ctx.add], C, e, fz, fun _ _ _ => False, hC, hfz, hcap, hm, hsz, hel, fun i j x v hx hv => (hR i j x v hx hv).1.2, fun i j x v hx hv => ?_, fun _ _ h => h, fun _ _ _ _ _ h => h.elim, fun _ _ _ h => h.elim, fun k => by simp⟩
  cases hd : x.isCell with
  | true => exact .inl (.plain ((hR i j x v hx hv).2.2 hd) (hR' i j x v hx hv) (fun _ h => h))
  | false =>
    cases p with
    | true =>
      have := (hR i j x v hx hv).2.1 rfl
      cases x <;> simp_all [AV.isData, AV.isCell]
    | false => exact .inr ⟨rfl, fun _ h => h, hR' i j x v hx hv, by first | exact hd | rfl⟩

theorem elt_replicate {k : Nat} {e : List AV} {i j : Nat} {x : AV} (h : elt (List.replicate k e) i j = some x) : i < k ∧ e[j]? = some x := by
  unfold elt at h
  rw [List.getElem?_replicate] at h
  split at h
  · exact ⟨by assumption, by simpa using h⟩
  · simp at h

theorem opMakeSlice_ok {E : Tab} (hE : E.ok P) (h : H w0 L n σ a w c F) {site : Nat} {t : TypeId} {l k : T} {X Y : Value} (hX : RT c w l X) (hY : RT c w k Y) (hk : opMakeSlice E K site t l k) :
    ∃ v news, K v news ∧ (Fresh σ.mem news → ∃ V w', (Instr.makeSlice t X Y).run P w = .ok V w' ∧ Post w0 L n σ a news v V w') := by
  unfold opMakeSlice at hk
  split at hk
  case h_2 => exact hk.elim
  rename_i e sz by_ kl l kc m he
  split at hk
  case h_2 => exact hk.elim
  rename_i zs hz
  split at hk
  case isFalse => exact hk.elim
  rename_i hzs
  obtain ⟨ln, rfl, h1, h2, h3, hk⟩ := hk
  have h0 : (0 : Int) ≤ (ln : Int) := Int.natCast_nonneg ln
  obtain ⟨inf, hu, hi, rfl, rfl, hne⟩ := elI_some (Tab.el_ok hE he)
  obtain ⟨i, z, hi', hzz, rfl, hall⟩ := zrI_some (Tab.zr_ok hE hz)
  rw [hi] at hi'; cases hi'
  obtain rfl := one_lit hX
  obtain rfl := one_lit hY
  refine ⟨_, _, hk, fun hf => ?_⟩
  have hs := hf _ (List.mem_singleton.2 rfl)
  have hrun := run_make (P := P) w t e inf z hu hi hzz kl kc ln m h0 h1 h2 (by have : maxLen ≤ 9223372036854775807 := (by decide); omega)
  have hmc : (madeCells z.cells (m.toNat * inf.size)).size = m.toNat * inf.size := by simp [madeCells]
  have hzsz : z.cells.size = inf.size := by simpa using hzs
  obtain ⟨c', F', hH, hat⟩ := h.newRow (w1 := w.alloc (.cells (madeCells z.cells (m.toNat * inf.size)) e)) ((Bel.refl _ _).alloc (Nat.le_refl _) _) hs (p := true) (sz := inf.size) (cap := m.toNat)
    (es := List.replicate ln (z.cells.toList.map .lit)) (b := w.heap.size) (Nat.le_refl _) (heap_alloc_new w _) (fun i _ => by simp) (by simp; omega) (by omega) hmc (fun e' he' => by rw [List.eq_of_mem_replicate he']; simpa using hzs) (fun i j x v hx hv => by
      obtain ⟨hi1, hx⟩ := elt_replicate hx
      rw [List.getElem?_map] at hx
      cases hzj : z.cells.toList[j]? with
      | none => simp [hzj] at hx
      | some u =>
        simp [hzj] at hx
        subst hx
        have hj : j < inf.size := by have := (List.getElem?_eq_some_iff.1 hzj).1; rw [hzs] at this; exact this
        have hlt : i * inf.size + j < m.toNat * inf.size := fit_lt hi1 hj (by omega)
        have hvu : v = u := by
          have hj' : j < z.cells.size := by omega
          have hmod : (i * inf.size + j) % z.cells.size = j := by rw [hzsz, Nat.add_comm, Nat.add_mul_mod_self_right, Nat.mod_eq_of_lt hj]
          have h7 : (madeCells z.cells (m.toNat * inf.size))[i * inf.size + j]? = some z.cells[j] := by
            simp [madeCells, hlt, hmod, hj']
          rw [h7] at hv
          have := (List.getElem?_eq_some_iff.1 hzj).2
          cases hv
          simpa using this
        subst hvu
        exact ⟨⟨.lit v, List.all_eq_true.1 hall _ (List.mem_of_getElem? hzj)⟩, fun _ => rfl, fun _ => rfl⟩)
  refine ⟨_, _, hrun, c', F', hH, ?_, rfl⟩
  have := R.loc (c := c') (w := w.alloc (.cells (madeCells z.cells (m.toNat * inf.size)) e)) (off := 0) (len := ln) (A := some ⟨w.heap.size, 0, none⟩) hat (by omega) (fun _ => by simp)
  simpa using this

theorem foldl_set (ys : List Value) : ∀ (C : Array Value) (o k : Nat), o + k + ys.length ≤ C.size →
    ((ys.zipIdx k).foldl (fun cs (x : Value × Nat) => cs.setIfInBounds (o + x.2) x.1) C).toList = C.toList.take (o + k) ++ ys ++ C.toList.drop (o + k + ys.length) := by
  induction ys with
  | nil => intro C o k h; simp
  | cons y ys ih =>
    intro C o k h
    simp only [List.zipIdx_cons, List.foldl_cons]
    rw [ih _ o (k + 1) (by simp at h ⊢; omega)]
    have := list_seg_step C.toList (o + k) y ys (by simp at h ⊢; omega)
    simpa [Array.toList_setIfInBounds, Nat.add_assoc, Nat.add_comm 1] using this

theorem RL.append : ∀ {xs ys : List AV} {vs us : List Value}, RL c w xs vs → RL c w ys us → RL c w (xs ++ ys) (vs ++ us)
  | [], _, [], _, _, h => h
  | _ :: _, _, _ :: _, _, h, k => ⟨h.1, RL.append h.2 k⟩

/-- Operands with their numbers. -/
def RTN (c : Ctx) (w : World) : List (Nat × T) → List (Nat × Value) → Prop
  | [], [] => True
  | (i, t) :: ts, (j, v) :: vs => i = j ∧ RT c w t v ∧ RTN c w ts vs
  | _, _ => False

theorem fill_ok {place : Nat → Option (Nat × Nat)} : ∀ {ps : List (Nat × T)} {vs : List (Nat × Value)} {xs ys : List AV} {C : Array Value}, RTN c w ps vs → RL c w xs C.toList → fillA place ps xs = some ys →
    ∃ D, Instr.fill place C vs = some D ∧ RL c w ys D.toList
  | [], [], xs, ys, C, _, hR, h => by simp [fillA] at h; subst h; exact ⟨C, rfl, hR⟩
  | (i, t) :: ps, (j, v) :: vs, xs, ys, C, hN, hR, h => by
    obtain ⟨rfl, ht, hN⟩ := hN
    simp only [fillA, splice_eq] at h
    split at h
    case h_2 => cases h
    rename_i o sz zs hp hz
    split at h
    case isFalse => cases h
    rename_i hc
    have hcells := RT_cells hz ht
    have hl := hcells.length
    have hl2 := hR.length
    have hvs : v.cells.size = sz := by rw [← hc.1, hl]; simp
    have hcs : o + sz ≤ C.size := by have := hc.2; rw [hl2] at this; simpa using this
    have hfold := foldl_set v.cells.toList C o 0 (by simp [hvs]; omega)
    obtain ⟨D, hD, hRD⟩ := fill_ok (place := place) (ps := ps) (vs := vs) (C := v.cells.zipIdx.foldl (fun cs (x : Value × Nat) => cs.setIfInBounds (o + x.2) x.1) C) hN (by
      rw [show v.cells.zipIdx.foldl (fun cs (x : Value × Nat) => cs.setIfInBounds (o + x.2) x.1) C = (v.cells.toList.zipIdx 0).foldl (fun cs (x : Value × Nat) => cs.setIfInBounds (o + x.2) x.1) C by
        rw [← Array.foldl_toList, Array.toList_zipIdx]]
      rw [hfold]
      simp only [Nat.add_zero, Array.length_toList, hvs]
      exact ((hR.take o).append hcells).append (hR.drop (o + sz))) h
    refine ⟨D, ?_, hRD⟩
    simp only [Instr.fill, hp]
    rw [if_neg (by simp [hvs]; omega)]
    exact hD

theorem mapM_places (fs : Array Field) (hf : ∀ i, i < fs.size → ∃ (f : Field) (sz : Nat), fs[i]? = some f ∧ ∃ inf, P.info? f.type = some inf ∧ inf.size = sz) (w : World) :
    ∃ pl : Array (Nat × Nat), (fs.mapM fun f => (Prod.mk f.offset <$> sizeOf f.type : Sem (Nat × Nat))).run P w = .ok pl w ∧ ∀ i : Nat, pl[i]? = (fs[i]?).map fun f => (f.offset, ((P.info? f.type).map (·.size)).getD 0) := by
  refine ⟨fs.map fun f => (f.offset, ((P.info? f.type).map (·.size)).getD 0), ?_, fun i => by simp⟩
  rw [Array.mapM_eq_mapM_toList]
  have key : ∀ l : List Field, (∀ f ∈ l, ∃ inf, P.info? f.type = some inf) → (l.mapM fun f => (Prod.mk f.offset <$> sizeOf f.type : Sem (Nat × Nat))).run P w = .ok (l.map fun f => (f.offset, ((P.info? f.type).map (·.size)).getD 0)) w := by
    intro l
    induction l with
    | nil => intro _; simp
    | cons f l ih =>
      intro h
      obtain ⟨inf, hi⟩ := h f (by simp)
      have := ih (fun g hg => h g (by simp [hg]))
      simp [List.mapM_cons, run_sizeOf hi, this, hi]
  have h1 := key fs.toList (fun f hf' => by
    obtain ⟨i, hi⟩ := List.getElem?_of_mem hf'
    obtain ⟨f', sz, h1, inf, h2, _⟩ := hf i (by have := (List.getElem?_eq_some_iff.1 hi).1; simpa using this)
    have : f' = f := by
      have h3 : fs[i]? = some f := by simpa using hi
      rw [h1] at h3; cases h3; rfl
    subst this
    exact ⟨inf, h2⟩)
  simp only [Sem.run_map, h1, Result.andThen_ok]
  congr 1
  apply Array.ext'
  simp

theorem opBuild_ok {E : Tab} (hE : E.ok P) {t : TypeId} {ps : List (Nat × T)} {vs : List (Nat × Value)} (hX : RTN c w ps vs) (hk : opBuild E K t ps) :
    ∃ v V, K v [] ∧ (Instr.build t vs.toArray).run P w = .ok V w ∧ RT c w v V := by
  unfold opBuild at hk
  split at hk
  case h_2 => exact hk.elim
  rename_i zs nf hz hu'
  obtain ⟨fs, hu, rfl⟩ := Tab.struct_ok hE hu'
  split at hk
  case h_2 => exact hk.elim
  rename_i xs hx hall'
  have hall : ∀ i, i < fs.size → ∃ x, E.fld t i = some x ∧ fldI P t i = some x := fun i hi => by
    obtain ⟨x, hx⟩ := Option.isSome_iff_exists.1 (List.all_eq_true.1 hall' i (List.mem_range.2 hi))
    exact ⟨x, hx, Tab.fld_ok hE hx⟩
  obtain ⟨i, z, hi, hzz, rfl, hone⟩ := zrI_some (Tab.zr_ok hE hz)
  have hfld : ∀ i, i < fs.size → ∃ (f : Field) (o sz : Nat) (g : Bool), fs[i]? = some f ∧ fldI P t i = some (o, sz, g) ∧ f.offset = o ∧ ∃ inf, P.info? f.type = some inf ∧ inf.size = sz := fun i hi => by
    obtain ⟨⟨o, sz, g⟩, _, hf⟩ := hall i hi
    obtain ⟨fs', fd, h1, h2, h3, h4, _⟩ := fldI_some hf
    rw [hu] at h1; cases h1
    obtain ⟨inf, d, h5, _, h6, _⟩ := tyI_some h4
    exact ⟨fd, o, sz, g, h2, hf, h3, inf, h5, h6⟩
  obtain ⟨pl, hpl, hpl2⟩ := mapM_places (P := P) fs (fun i hi => by
    obtain ⟨f, o, sz, g, h1, _, _, inf, h2, h3⟩ := hfld i hi
    exact ⟨f, sz, h1, inf, h2, h3⟩) w
  have hplace : ∀ (l : List (Nat × T)) (xs ys : List AV), fillA (fun i => match E.fld t i with | some x => some (x.1, x.2.1) | none => none) l xs = some ys → fillA (fun i => pl[i]?) l xs = some ys := by
    intro l
    induction l with
    | nil => intro xs ys h; exact h
    | cons p l ih =>
      intro xs ys h
      obtain ⟨i, u⟩ := p
      simp only [fillA] at h ⊢
      split at h
      case h_2 => cases h
      rename_i o sz zs hp hz
      have hpl3 : pl[i]? = some (o, sz) := by
        split at hp
        · rename_i x hx
          cases hp
          obtain ⟨fs', fd, h1, h2, h3, h4, _⟩ := fldI_some (Tab.fld_ok hE hx)
          rw [hu] at h1; cases h1
          obtain ⟨inf, d, h5, _, h6, _⟩ := tyI_some h4
          rw [hpl2, h2]
          simp [h3, h5, h6]
        · cases hp
      rw [hpl3, hz]
      simp only
      split at h
      · rename_i hc; rw [if_pos hc]; exact ih _ _ h
      · cases h
  replace hx := hplace _ _ _ hx
  obtain ⟨D, hD, hR⟩ := fill_ok (place := fun i => pl[i]?) (C := z.cells) hX (RL.lits c w _ hone) hx
  exact ⟨_, .agg D, hk, by simp [Instr.build, zeroValue, typeInfo, hi, hzz, run_underlying hu, hpl, hD], hR⟩

theorem chunk_length (sz : Nat) : ∀ (k : Nat) (xs : List AV), (chunk sz xs k).length = k
  | 0, _ => rfl
  | k + 1, xs => by simp [chunk, chunk_length sz k]
theorem chunk_get (sz : Nat) : ∀ (k : Nat) (xs : List AV) (i : Nat), i < k → (chunk sz xs k)[i]? = some ((xs.drop (i * sz)).take sz)
  | k + 1, xs, 0, _ => by simp [chunk]
  | k + 1, xs, i + 1, h => by
    simp only [chunk, List.getElem?_cons_succ]
    rw [chunk_get sz k _ i (by omega), List.drop_drop]
    congr 3
    rw [Nat.add_mul]; omega

theorem RL.replicate_flat {zs : List Value} (hz : zs.all (·.oneCell') = true) : ∀ k, RL c w ((List.replicate k (zs.map .lit)).flatten) ((List.replicate k zs).flatten)
  | 0 => trivial
  | k + 1 => by
    simp only [List.replicate_succ, List.flatten_cons]
    exact (RL.lits c w zs hz).append (RL.replicate_flat hz k)

theorem range_map_flat (z : Array Value) (hz : 0 < z.size) (k : Nat) : ((Array.range (k * z.size)).map (z[· % z.size]!)).toList = (List.replicate k z.toList).flatten := by
  apply List.ext_getElem?
  intro i
  by_cases hi : i < k * z.size
  · have hm := Nat.mod_lt i hz
    have e1 : ((Array.range (k * z.size)).map (z[· % z.size]!)).toList[i]? = some (z[i % z.size]) := by
      simp [hi, hm]
    rw [e1]
    induction k generalizing i with
    | zero => omega
    | succ k ih =>
      simp only [List.replicate_succ, List.flatten_cons]
      by_cases h2 : i < z.size
      · rw [List.getElem?_append_left (by simpa using h2)]
        simp [Nat.mod_eq_of_lt h2, h2]
      · rw [List.getElem?_append_right (by simpa using Nat.le_of_not_lt h2)]
        simp only [Array.length_toList]
        have h3 : (i - z.size) % z.size = i % z.size := by rw [← Nat.mod_eq_sub_mod (Nat.le_of_not_lt h2)]
        have hk : i - z.size < k * z.size := by rw [Nat.add_mul] at hi; omega
        have := ih (i - z.size) hk (Nat.mod_lt _ hz) (by simp [hk, h3, hm])
        rw [← this]
        simp [h3]
  · rw [List.getElem?_eq_none (by simp; omega), List.getElem?_eq_none (by simp; omega)]

theorem opBuildSlice_ok {E : Tab} (hE : E.ok P) (h : H w0 L n σ a w c F) {site len : Nat} {t : TypeId} {ps : List (Nat × T)} {vs : List (Nat × Value)} (hX : RTN c w ps vs) (hk : opBuildSlice E K site t len ps) :
    ∃ v news, K v news ∧ (Fresh σ.mem news → ∃ V w', (Instr.buildSlice t len vs.toArray).run P w = .ok V w' ∧ Post w0 L n σ a news v V w') := by
  unfold opBuildSlice at hk
  split at hk
  case h_2 => exact hk.elim
  rename_i e sz by_ he
  split at hk
  case h_2 => exact hk.elim
  rename_i zs hz
  split at hk
  case isFalse => exact hk.elim
  rename_i hzl
  obtain ⟨hzs, hle⟩ := hzl
  split at hk
  case h_2 => exact hk.elim
  rename_i xs hx
  obtain ⟨inf, hu, hi, rfl, rfl, hne⟩ := elI_some (Tab.el_ok hE he)
  obtain ⟨i, z, hi', hzz, rfl, hall⟩ := zrI_some (Tab.zr_ok hE hz)
  rw [hi] at hi'; cases hi'
  have hzsz : z.cells.size = inf.size := by simpa using hzs
  refine ⟨_, _, hk, fun hf => ?_⟩
  have hs := hf _ (List.mem_singleton.2 rfl)
  have hflat : ∃ zero : Array Value, ((Array.range (len * inf.size)).map (zero[· % zero.size]!)).toList = (List.replicate len z.cells.toList).flatten ∧ (len * inf.size = 0 → zero = #[]) ∧ (len * inf.size ≠ 0 → zero = z.cells) := by
    by_cases h0 : len * inf.size = 0
    · refine ⟨#[], ?_, fun _ => rfl, fun h => absurd h0 h⟩
      have : len = 0 := by rcases Nat.mul_eq_zero.1 h0 with h | h; exact h; exact absurd h hne
      simp [this]
    · refine ⟨z.cells, ?_, fun h => absurd h h0, fun _ => rfl⟩
      have := range_map_flat z.cells (by omega) len
      rw [← hzsz]; exact this
  obtain ⟨zero, hC, hz0, hz1⟩ := hflat
  obtain ⟨D, hD, hR⟩ := fill_ok (place := fun i => some (i * inf.size, inf.size)) (C := (Array.range (len * inf.size)).map (zero[· % zero.size]!)) hX (by rw [hC]; exact RL.replicate_flat hall len) hx
  have hxl : xs.length = len * inf.size := by
    have : ∀ (ps : List (Nat × T)) (ys xs : List AV), fillA (fun i => some (i * inf.size, inf.size)) ps ys = some xs → xs.length = ys.length := by
      intro ps
      induction ps with
      | nil => intro ys xs h; simp [fillA] at h; rw [h]
      | cons p ps ih =>
        intro ys xs h
        obtain ⟨i, t⟩ := p
        simp only [fillA, splice_eq] at h
        split at h
        case h_2 => cases h
        rename_i o sz zs hp _
        split at h
        case isFalse => cases h
        rename_i hc
        have := ih _ _ h
        rw [this]
        simp
        omega
    rw [this _ _ _ hx]
    simp [hzs]
  replace hR := RL.map_bor hR
  have hbl : (xs.map AV.bor).length = len * inf.size := by simpa using hxl
  have hDl : D.size = len * inf.size := by have := hR.length; rw [hbl] at this; simpa using this.symm
  have hrun : (Instr.buildSlice t len vs.toArray).run P w = .ok (.slice (some ⟨w.heap.size, 0, none⟩) len len) (w.alloc (.cells D e)) := by
    unfold Instr.buildSlice
    simp only [Sem.run_bind, run_underlying hu, Result.andThen_ok, run_sizeOf hi]
    rw [if_neg (by omega)]
    by_cases h0 : len * inf.size = 0
    · rw [if_pos h0]
      rw [hz0 h0] at hD
      simp only [pure_bind, hD, Sem.run_bind, Go.newRow, run_newObj, Result.andThen_ok, Sem.run_pure, World.alloc_eq]
    · rw [if_neg h0]
      rw [hz1 h0] at hD
      have hzv : (zeroValue e).run P w = .ok z w := by simp [zeroValue, typeInfo, hi, hzz]
      simp only [pure_bind, hzv, hD, Sem.run_bind, Go.newRow, run_newObj, Result.andThen_ok, Sem.run_pure, World.alloc_eq]
  have hmx : len ≤ maxLen := by
    have : len ≤ len * inf.size := Nat.le_mul_of_pos_right _ (by omega)
    simp only [maxLen]; omega
  obtain ⟨c', F', hH, hat⟩ := h.newRow (w1 := w.alloc (.cells D e)) ((Bel.refl _ _).alloc (Nat.le_refl _) _) hs (p := (xs.map AV.bor).all AV.isData) (sz := inf.size) (cap := len)
    (es := chunk inf.size (xs.map AV.bor) len) (b := w.heap.size) (Nat.le_refl _) (heap_alloc_new w _) (fun i _ => by simp) (by rw [chunk_length]; exact Nat.le_refl _) hmx hDl (fun e' he' => by
      obtain ⟨i, hi⟩ := List.getElem?_of_mem he'
      have hil : i < len := by have := (List.getElem?_eq_some_iff.1 hi).1; rwa [chunk_length] at this
      rw [chunk_get _ _ _ _ hil] at hi
      cases hi
      have h5 : (i + 1) * inf.size ≤ len * inf.size := Nat.mul_le_mul_right _ (by omega)
      rw [Nat.add_mul] at h5
      rw [List.length_take, List.length_drop, hbl]; omega) (fun i j x v hx' hv => by
      unfold elt at hx'
      cases hci : (chunk inf.size (xs.map AV.bor) len)[i]? with
      | none => simp [hci] at hx'
      | some e' =>
        have hil : i < len := by have := (List.getElem?_eq_some_iff.1 hci).1; rwa [chunk_length] at this
        rw [chunk_get _ _ _ _ hil] at hci
        cases hci
        rw [chunk_get _ _ _ _ hil] at hx'
        simp only [Option.bind_some, List.getElem?_take, List.getElem?_drop] at hx'
        split at hx'
        · exact ⟨hR.at hx' (by simpa using hv), fun hp => List.all_eq_true.1 hp _ (List.mem_of_getElem? hx'), fun hc => by
            obtain ⟨y, _, rfl⟩ := List.mem_map.1 (List.mem_of_getElem? hx')
            exact bor_cell hc⟩
        · cases hx')
  refine ⟨_, _, hrun, c', F', hH, ?_, rfl⟩
  have := R.loc (c := c') (w := w.alloc (.cells D e)) (off := 0) (len := len) (A := some ⟨w.heap.size, 0, none⟩) hat (by omega) (fun _ => by simp)
  simpa using this

/-- What an append takes its elements from. -/
def opSrc (m : Nat → Option Blk) (sz : Nat) (y : T) (p : Bool) (src : List (List AV)) : Prop :=
  match y with
  | .one (.row _ rz es) => rz = sz ∧ p = true ∧ src = es
  | .one (.nn rz es) => rz = sz ∧ p = true ∧ src = es
  | .one (.loc s off len) => match m s with
    | some (.row p' rz es) => rz = sz ∧ off + len ≤ es.length ∧ p = p' ∧ src = (es.drop off).take len
    | _ => False
  | .one (.lit (.slice none 0 0)) => p = true ∧ src = []
  | _ => False

theorem opSrc_ok (h : H w0 L n σ a w c F) {m : Nat → Option Blk} (hm : Sup σ m) {sz : Nat} {y : T} {Y : Value} {p : Bool} {src : List (List AV)} (hY : RT c w y Y) (hk : opSrc m sz y p src) :
    (∀ e ∈ src, e.length = sz) ∧ ∃ A cp, Y = .slice A src.length cp ∧ (0 < src.length → ∃ b o, A = some ⟨b, o, none⟩ ∧
      ∃ news : List Value, news.length = src.length * sz ∧ (∀ (j : Nat) (v : Value), news[j]? = some v → w.cell? ⟨b, o + j, none⟩ = some v) ∧
        ∀ (i j : Nat) (x : AV) (v : Value), elt src i j = some x → news[i * sz + j]? = some v → R c w x v ∧ v.oneCell' = true ∧ (p = true → x.isCell = true)) := by
  have flat : ∀ (es : List (List AV)) (b o : Nat) (p : Bool), (∀ e ∈ es, e.length = sz) → (∀ (i j : Nat) (x : AV), elt es i j = some x → ∃ v, w.cell? ⟨b, o + i * sz + j, none⟩ = some v ∧ v.oneCell' = true ∧ R c w x v ∧ (p = true → x.isCell = true)) →
      ∃ news : List Value, news.length = es.length * sz ∧ (∀ (j : Nat) (v : Value), news[j]? = some v → w.cell? ⟨b, o + j, none⟩ = some v) ∧
        ∀ (i j : Nat) (x : AV) (v : Value), elt es i j = some x → news[i * sz + j]? = some v → R c w x v ∧ v.oneCell' = true ∧ (p = true → x.isCell = true) := by
    intro es b o p hl hc
    have hcell : ∀ k, k < es.length * sz → ∃ v, w.cell? ⟨b, o + k, none⟩ = some v := fun k hk => by
      have hsz : 0 < sz := by rcases Nat.eq_zero_or_pos sz with e | e; simp [e] at hk; exact e
      have hi : k / sz < es.length := (Nat.div_lt_iff_lt_mul hsz).2 hk
      have hj : k % sz < (es[k / sz]).length := by rw [hl _ (List.getElem_mem hi)]; exact Nat.mod_lt _ hsz
      obtain ⟨v, hv, _⟩ := hc (k / sz) (k % sz) (es[k / sz][k % sz]) (by simp [elt, hi, hj])
      refine ⟨v, ?_⟩
      rw [← hv]; congr 2
      have := Nat.div_add_mod k sz
      rw [Nat.mul_comm] at this; omega
    refine ⟨(List.range (es.length * sz)).map fun k => (w.cell? ⟨b, o + k, none⟩).getD default, by simp, fun j v hv => ?_, fun i j x v hx hv => ?_⟩
    · have hj : j < es.length * sz := by have := (List.getElem?_eq_some_iff.1 hv).1; simpa using this
      obtain ⟨u, hu⟩ := hcell j hj
      simp [hj, hu] at hv
      rw [← hv]; exact hu
    · obtain ⟨hi, hj⟩ := elt_lt hl hx
      have hlt := fit_lt hi hj (Nat.le_refl es.length)
      obtain ⟨u, h1, h2, h3, h4⟩ := hc i j x hx
      rw [Nat.add_assoc] at h1
      simp [hlt, h1] at hv
      subst hv
      exact ⟨h3, h2, h4⟩
  have ofRow : ∀ (own : Bool) (es : List (List AV)) (V : Value), R c w (.row own sz es) V → (∀ e ∈ es, e.length = sz) ∧ ∃ A cp, V = .slice A es.length cp ∧ (0 < es.length → ∃ b o, A = some ⟨b, o, none⟩ ∧
      ∃ news : List Value, news.length = es.length * sz ∧ (∀ (j : Nat) (v : Value), news[j]? = some v → w.cell? ⟨b, o + j, none⟩ = some v) ∧
        ∀ (i j : Nat) (x : AV) (v : Value), elt es i j = some x → news[i * sz + j]? = some v → R c w x v ∧ v.oneCell' = true ∧ (true = true → x.isCell = true)) := by
    intro own es V hV
    cases hV with
    | @row _ _ _ A cap b o vals a1 a2 a3 a4 a0 a5 a6 a7 =>
      refine ⟨a4, A, cap, rfl, fun hl => ?_⟩
      obtain ⟨rfl, _⟩ := a3 hl
      exact ⟨b, o, rfl, flat _ b o true a4 fun i j x hx => ⟨_, a5 i j x hx, a6 i j x hx, a7 i j x hx, fun _ => a0 i j x hx⟩⟩
  unfold opSrc at hk
  split at hk
  · obtain ⟨rfl, rfl, rfl⟩ := hk
    exact ofRow _ _ _ hY.1
  · obtain ⟨rfl, rfl, rfl⟩ := hk
    obtain ⟨hY, _⟩ := hY
    cases hY with | nn hY => exact ofRow _ _ _ hY
  · rename_i s off len
    split at hk
    case h_2 => exact hk.elim
    rename_i p' rz es hs
    obtain ⟨rfl, hfit, rfl, rfl⟩ := hk
    replace hs : σ.mem s = some (.row p rz es) := by
      obtain ⟨hY, _⟩ := hY
      cases hY with
      | loc h1 => exact h.look hm h1 hs
      | locnil h1 => exact h.look hm h1 hs
    have hlen : ((es.drop off).take len).length = len := by rw [List.length_take, List.length_drop]; omega
    obtain ⟨hY, _⟩ := hY
    rcases h.mem s _ hs with ⟨hat, rfl, _⟩ | ⟨b, cap, hat, C, el, fz, G, a1, a2, a3, a4, a5, a6, a7, a8, a9, a10, a11, a12⟩
    · simp
      cases hY with
      | locnil => exact ⟨none, 0, rfl⟩
      | loc h1 => rw [hat] at h1; cases h1
    · refine ⟨fun e he => a6 e (List.mem_of_mem_drop (List.mem_of_mem_take he)), ?_⟩
      cases hY with
      | locnil h1 => rw [hat] at h1; cases h1
      | @loc _ _ _ b' cap' sz' A h1 hle hA =>
        rw [hat] at h1; cases h1
        rw [hlen]
        refine ⟨A, _, rfl, fun hl => ⟨b, off * rz, hA (by omega), ?_⟩⟩
        have := flat ((es.drop off).take len) b (off * rz) p (fun e he => a6 e (List.mem_of_mem_drop (List.mem_of_mem_take he))) fun i j x hx => ?_
        · rwa [hlen] at this
        · have hx' : elt es (off + i) j = some x := by
            unfold elt at hx ⊢
            rw [List.getElem?_take] at hx
            split at hx
            · rwa [List.getElem?_drop] at hx
            · simp at hx
          obtain ⟨hi, hj⟩ := elt_lt a6 hx'
          have hfit2 := fit_lt hi hj a3
          have hv : C[(off + i) * rz + j]? = some (C[(off + i) * rz + j]'(by omega)) := by simp
          refine ⟨_, by simp only [World.cell?, a1, Option.isSome_none, Bool.false_eq_true, if_false]; rw [← hv, Nat.add_mul], a7 _ _ x _ hx' hv, ?_, ?_⟩
          · rcases a8 _ _ x _ hx' hv with h1 | h1
            · refine h1.read fun q hq => ?_
              have hF : F s q := (a12 q).2 (.inr ⟨_, _, hq⟩)
              rw [h.inn s q hF]
              rintro (ht | ⟨_, _, ht⟩)
              · rw [hat] at ht; cases ht
              · rw [hat] at ht; cases ht; exact a9 _ _ hq
            · exact h1.2.2.1
          · intro hp
            exact ((a8 _ _ x _ hx' hv).resolve_right (fun h => by rw [hp] at h; cases h.1)).isCell
  · obtain ⟨rfl, rfl⟩ := hk
    obtain rfl := one_lit hY
    exact ⟨by simp, none, 0, rfl, fun h => by simp at h⟩
  · exact hk.elim


def byteE (b : UInt8) : List AV := [.lit (.int .u8 (b.toNat : Int))]

/-- []byte(s). -/
def opToBytes (E : Tab) (K : T → News → Prop) (site : Nat) (dst : TypeId) (x : T) : Prop :=
  match E.el dst, x with
  | some (e, sz, _), .one (.lit (.string s)) => match E.kd e with
    | some (.int .u8) => if sz = 1 then s.size ≤ maxLen ∧ K (.one (.loc site 0 s.size)) [(site, .row true 1 (s.data.toList.map byteE))] else False
    | _ => False
  | _, _ => False
/-- string(b). -/
def opToStr (E : Tab) (m : Nat → Option Blk) (K : T → News → Prop) (src : TypeId) (x : T) : Prop :=
  match E.el src with
  | some (e, sz, _) => match E.kd e with
    | some (.int .u8) => if sz = 1 then ∃ p es l, opSrc m 1 x p es ∧ es = List.map byteE l ∧ K (.one (.lit (.string ⟨l.toArray⟩))) [] else False
    | _ => False
  | none => False
def opConv2 (E : Tab) (m : Nat → Option Blk) (K : T → News → Prop) (site : Nat) (src dst : TypeId) (x : T) : Prop :=
  match E.kd dst, E.kd src with
  | some .sl, some .str => opToBytes E K site dst x
  | some .str, some .sl => opToStr E m K src x
  | _, _ => opConv E K src dst x

theorem bytesWorld_below (w : World) (e : TypeId) (s : ByteArray) : Bel w.heap.size w (Lib.bytesWorld w e s) :=
  ⟨rfl, rfl, rfl, by rw [Lib.bytesWorld_size]; omega, fun k hk => Lib.bytesWorld_at_old w e s k hk, by first | exact Nat.le_refl _ | exact Nat.le_succ _ | (simp [Lib.bytesWorld]; done)⟩

theorem opConv2_ok {E : Tab} (hE : E.ok P) (h : H w0 L n σ a w c F) {m : Nat → Option Blk} (hm : Sup σ m) {site : Nat} {src dst : TypeId} {x : T} {X : Value} (hX : RT c w x X) (hk : opConv2 E m K site src dst x) :
    ∃ v news, K v news ∧ (Fresh σ.mem news → ∃ V w', (convert src dst X).run P w = .ok V w' ∧ Post w0 L n σ a news v V w') := by
  unfold opConv2 at hk
  split at hk
  · rename_i hd hs
    replace hs := Tab.str_ok hE hs
    unfold opToBytes at hk
    split at hk
    case h_2 => exact hk.elim
    rename_i e sz by_ s he
    split at hk
    case h_2 => exact hk.elim
    rename_i hke
    split at hk
    case isFalse => exact hk.elim
    rename_i hsz
    subst hsz
    obtain ⟨hmx, hk⟩ := hk
    obtain ⟨inf, hu, hi, hsz1, rfl, hne⟩ := elI_some (Tab.el_ok hE he)
    have hue := Tab.int_ok hE hke
    obtain rfl := one_lit hX
    refine ⟨_, _, hk, fun hf => ?_⟩
    have hfr := hf _ (List.mem_singleton.2 rfl)
    have hrun := Lib.run_convert_string_bytes (P := P) w src dst e s hs hu hue
    have hge := grownCap_ge w s.size 0 e
    have hle := grownCap_le_maxLen w s.size 0 e hmx
    have hsize : (Lib.bytesCells w e s).size = grownCap w s.size 0 e * 1 := by
      have : s.data.size = s.size := rfl
      simp [Lib.bytesCells]; omega
    obtain ⟨c', F', hH, hat⟩ := h.newRow (w1 := Lib.bytesWorld w e s) (bytesWorld_below w e s) hfr (p := true) (sz := 1) (cap := grownCap w s.size 0 e) (es := s.data.toList.map byteE) (b := w.heap.size) (Nat.le_refl _) (Lib.bytesWorld_at_new w e s)
      (fun i hi => by have : pad 1 = 0 := rfl; simp; omega) (by simpa using hge) hle hsize (fun e' he' => by obtain ⟨b, _, rfl⟩ := List.mem_map.1 he'; rfl) (fun i j x v hx hv => by
        unfold elt at hx
        rw [List.getElem?_map] at hx
        cases hb : s.data.toList[i]? with
        | none => simp [hb] at hx
        | some b =>
          simp only [hb, Option.map_some, Option.bind_some, byteE] at hx
          cases j with
          | succ j => simp at hx
          | zero =>
            simp at hx
            subst hx
            have hib := List.getElem?_eq_some_iff.1 hb
            have hi : i < s.data.size := by simpa using hib.1
            have : v = .int .u8 (b.toNat : Int) := by
              simp only [Lib.bytesCells, Nat.mul_one, Nat.add_zero] at hv
              rw [Array.getElem?_append_left (by simpa using hi)] at hv
              simp [hi] at hv
              obtain ⟨a, ha, rfl⟩ := hv
              have h2 := hib.2
              rw [Array.getElem?_eq_getElem hi] at ha
              simp at h2
              simp only [Option.some.injEq] at ha
              rw [← ha, h2]
            subst this
            exact ⟨⟨.lit _, rfl⟩, fun _ => rfl, fun _ => rfl⟩)
    refine ⟨_, _, hrun, c', F', hH, ?_, rfl⟩
    have := R.loc (c := c') (w := Lib.bytesWorld w e s) (off := 0) (len := s.size) (A := some ⟨w.heap.size, 0, none⟩) hat (by omega) (fun _ => by simp)
    simpa using this
  · rename_i hd hs
    replace hd := Tab.str_ok hE hd
    unfold opToStr at hk
    split at hk
    case h_2 => exact hk.elim
    rename_i e sz by_ he
    split at hk
    case h_2 => exact hk.elim
    rename_i hke
    split at hk
    case isFalse => exact hk.elim
    rename_i hsz
    subst hsz
    obtain ⟨p, es, l, hsrc, rfl, hk⟩ := hk
    obtain ⟨inf, hu, hi, hsz1, rfl, hne⟩ := elI_some (Tab.el_ok hE he)
    have hue := Tab.int_ok hE hke
    obtain ⟨_, A, cp, rfl, hA⟩ := opSrc_ok h hm hX hsrc
    refine ⟨_, _, hk, fun _ => ⟨_, w, ?_, c, F, h, RT_lit _ rfl⟩⟩
    by_cases h0 : l = []
    · subst h0
      cases A with
      | none =>
        rw [run_convert_bytes_string w src dst e _ _ _ hu hue hd]
        simp [Conv.bytesToString]
        rfl
      | some A =>
        have := run_convert_bytes_back (P := P) w src dst e A cp [] hu hue hd (fun j hj => by simp at hj)
        simpa using this
    · have hpos : 0 < (List.map byteE l).length := by simp; exact List.length_pos_iff.2 h0
      obtain ⟨b, o, rfl, news, hnl, hnc, hnr⟩ := hA hpos
      have := run_convert_bytes_back (P := P) w src dst e ⟨b, o, none⟩ cp l hu hue hd (fun j hj => by
        rw [Addr.add_lit]
        have hjn : j < news.length := by rw [hnl]; simpa using hj
        have h1 := hnr j 0 (.lit (.int .u8 (l[j].toNat : Int))) news[j] (by simp [elt, hj, byteE]) (by simp [hjn])
        have h2 := one_lit ⟨h1.1, h1.2.1⟩
        exact hnc j _ (by rw [List.getElem?_eq_getElem hjn, h2]))
      simpa using this
  · obtain ⟨v, V, h1, h2, h3⟩ := opConv_ok hE hX hk
    exact ⟨v, [], h1, fun _ => ⟨V, w, h2, c, F, h, h3⟩⟩
end
end Go.Proofs.Ytlijeincckbdaaa
namespace Go.Proofs.Ytlijeincckbdaaa
open Go.RowKit
set_option linter.unusedSimpArgs false
set_option linter.unusedVariables false

def all2 (p : AV → AV → Prop) : List AV → List AV → Prop
  | [], [] => True
  | x :: xs, y :: ys => p x y ∧ all2 p xs ys
  | _, _ => False

/-- What a callee may see of a value: places of the caller's own are lent. -/
def LendA (m : Nat → Option Blk) : Nat → AV → AV → Prop
  | _, _, .dead => True
  | _, .lit (.slice none 0 0), y => y = .lit (.slice none 0 0) ∨ (∃ own sz, y = .row own sz []) ∨ ∃ s, m s = some (.par (.slice none 0 0) y)
  | _, .lit v, y => y = .lit v ∨ ∃ s, m s = some (.par v y)
  | _, .row _ sz es, .row _ sz' es' => sz' = sz ∧ es' = es
  | _, .nn sz es, .row _ sz' es' => sz' = sz ∧ es' = es
  | _, .loc s off len, .row _ sz' es' => match m s with
    | some (.row true sz es) => sz' = sz ∧ off + len ≤ es.length ∧ es' = (es.drop off).take len
    | _ => False
  | _, .bptr xs j, .bptr xs' j' => xs' = xs ∧ j' = j
  | k + 1, .ptr s j, .bptr xs' j' => match m s with
    | some (.var xs) => j' = j ∧ xs'.all AV.isFree = true ∧ all2 (LendA m k) xs xs'
    | _ => False
  | k + 1, .eptr s i j, .bptr xs' j' => match m s with
    | some (.row true _ es) => ∃ e, es[i]? = some e ∧ j' = j ∧ xs' = e.map AV.bor
    | _ => False
  | k + 1, .fn f caps, .fn f' caps' => f' = f ∧ all2 (LendA m k) caps caps'
  | _, _, _ => False
def LendT (m : Nat → Option Blk) : T → T → Prop
  | _, .dead => True
  | .one x, .one y => LendA m 4 x y
  | .agg xs, .agg ys => all2 (LendA m 4) xs ys
  | _, _ => False
def LendTs (m : Nat → Option Blk) : List T → List T → Prop
  | [], [] => True
  | x :: xs, y :: ys => LendT m x y ∧ LendTs m xs ys
  | _, _ => False

def c0 (I : Nat → Prop) : Ctx := ⟨fun _ => none, I⟩

section
variable {P : Program} {w0 w : World} {L : Nat → Prop} {n : Nat} {σ : AS} {a : Act} {c : Ctx} {F : Nat → Nat → Prop} {K : T → News → Prop}

theorem AV.bor_free {x : AV} (h : x.isFree = true) : x.bor.isFree = true := by cases x <;> first | exact h | rfl

/-- What may be lent: all that is read, and all tops of places. -/
def lentI0 (c : Ctx) (F : Nat → Nat → Prop) (O : Nat → Prop) (k : Nat) : Prop := c.I k ∨ (∃ s, F s k) ∨ O k

theorem H.rowAll (h : H w0 L n σ a w c F) {s : Nat} {sz : Nat} {es : List (List AV)} (hs : σ.mem s = some (.row true sz es)) :
    (c.at_ s = some .nil ∧ es = []) ∨ ∃ b cap, c.at_ s = some (.row b cap sz) ∧ es.length ≤ cap ∧ cap ≤ maxLen ∧ (∀ e ∈ es, e.length = sz) ∧ F s b ∧
      ∀ (i j : Nat) (x : AV), elt es i j = some x → ∃ v, w.cell? ⟨b, i * sz + j, none⟩ = some v ∧ v.oneCell' = true ∧ x.isCell = true ∧ R c w x v := by
  rcases h.mem s _ hs with ⟨h1, h2, _⟩ | ⟨b, cap, hat, hB⟩
  · exact .inl ⟨h1, h2⟩
  · have hB' := hB
    obtain ⟨C, el, fz, G, a1, a2, a3, a4, a5, a6, a7, a8, a9, a10, a11, a12⟩ := hB'
    refine .inr ⟨b, cap, hat, a3, a4, a6, (a12 b).2 (.inl rfl), fun i j x hx => ?_⟩
    obtain ⟨hi, hj⟩ := elt_lt a6 hx
    have hfit := fit_lt hi hj a3
    have hv : C[i * sz + j]? = some (C[i * sz + j]'(by omega)) := by simp
    have h8 := (a8 i j x _ hx hv).resolve_right (by simp)
    refine ⟨_, by simp only [World.cell?, a1, Option.isSome_none, Bool.false_eq_true, if_false]; exact hv, a7 i j x _ hx hv, h8.isCell, h8.read fun q hq => ?_⟩
    have hF : F s q := (a12 q).2 (.inr ⟨i, j, hq⟩)
    rw [h.inn s q hF]
    rintro (ht | ⟨_, _, ht⟩)
    · rw [hat] at ht; cases ht
    · rw [hat] at ht; cases ht; exact a9 i j hq

theorem R.anyOwn {c : Ctx} {w : World} {o o' : Bool} {sz : Nat} {es : List (List AV)} {v : Value} (h : R c w (.row o sz es) v) : R c w (.row o' sz es) v := by
  cases h with
  | row b o vals a1 a2 a3 a4 a5 a6 a7 a8 => exact .row b o vals a1 a2 a3 a4 a5 a6 a7 a8

theorem all2_len {p : AV → AV → Prop} : ∀ {xs ys : List AV}, all2 p xs ys → xs.length = ys.length
  | [], [], _ => rfl
  | _ :: _, _ :: _, h => by simp [all2_len h.2]
theorem all2_at {p : AV → AV → Prop} : ∀ {xs ys : List AV}, all2 p xs ys → ∀ (i : Nat) (y : AV), ys[i]? = some y → ∃ x, xs[i]? = some x ∧ p x y
  | [], [], _, i, y, h => by simp at h
  | x :: _, y :: _, h, 0, _, hy => by simp at hy; subst hy; exact ⟨x, rfl, h.1⟩
  | _ :: _, _ :: _, h, i + 1, y, hy => by simpa using all2_at h.2 i y (by simpa using hy)

theorem lendA_ok (h : H w0 L n σ a w c F) {m : Nat → Option Blk} (hm : Sup σ m) : ∀ (k : Nat) {x y : AV} {v : Value}, R c w x v → LendA m k x y → R (c0 (lentI0 c F (oldB w0 L))) w y v := by
  have hI : ∀ b, c.I b → (c0 (lentI0 c F (oldB w0 L))).I b := fun b hb => .inl hb
  intro k
  induction k using Nat.strongRecOn with
  | _ k ih =>
  intro x y v hX hl
  unfold LendA at hl
  split at hl
  · exact .dead v
  · cases hX
    rcases hl with rfl | ⟨own, sz, rfl⟩ | ⟨s, hs⟩
    · exact .lit _
    rotate_left
    · have hs' := hm.2 s _ rfl hs
      obtain ⟨a2, a3, _⟩ := h.par s _ _ hs'
      exact R.free (c' := c0 (lentI0 c F (oldB w0 L))) (fun b hb => Or.inr (Or.inr hb)) (fun b (hb : oldB w0 L b) => h.keeps.block b hb.1 hb.2) a3 a2
    · exact .row 0 0 (fun _ _ => default) (Nat.le_refl _) (by simp [maxLen]) (by simp) (by simp) (by simp [elt]) (by simp [elt]) (by simp [elt]) (by simp [elt])
  · cases hX
    rcases hl with rfl | ⟨s, hs⟩
    · exact .lit _
    · have hs' := hm.2 s _ rfl hs
      obtain ⟨a2, a3, _⟩ := h.par s _ _ hs'
      exact R.free (c' := c0 (lentI0 c F (oldB w0 L))) (fun b hb => Or.inr (Or.inr hb)) (fun b (hb : oldB w0 L b) => h.keeps.block b hb.1 hb.2) a3 a2
  · obtain ⟨rfl, rfl⟩ := hl
    exact (hX.free hI (fun _ _ => rfl) rfl).anyOwn
  · obtain ⟨rfl, rfl⟩ := hl
    cases hX with | nn hX => exact (hX.free hI (fun _ _ => rfl) rfl).anyOwn
  · rename_i s off len own sz' es'
    split at hl
    case h_2 => exact hl.elim
    rename_i sz es hs
    obtain ⟨rfl, hfits, rfl⟩ := hl
    replace hs : σ.mem s = some (.row true sz' es) := by
      cases hX with
      | locnil h1 => exact h.look hm h1 hs
      | loc h1 => exact h.look hm h1 hs
    rcases h.rowAll hs with ⟨hat, rfl⟩ | ⟨b, cap, hat, a3, a4, a6, hFb, hcell⟩
    · cases hX with
      | locnil _ => simp only [List.drop_nil, List.take_nil]; exact .row 0 0 (fun _ _ => default) (Nat.le_refl _) (by simp [maxLen]) (by simp) (by simp) (by simp [elt]) (by simp [elt]) (by simp [elt]) (by simp [elt])
      | loc h1 => rw [hat] at h1; cases h1
    · cases hX with
      | locnil h1 => rw [hat] at h1; cases h1
      | @loc _ _ _ b' cap' sz'' A h1 hle hA =>
        rw [hat] at h1; cases h1
        have hel : ∀ (i j : Nat) (x : AV), elt ((es.drop off).take len) i j = some x → i < len ∧ elt es (off + i) j = some x := fun i j x hx => by
          unfold elt at hx ⊢
          rw [List.getElem?_take] at hx
          split at hx
          · rw [List.getElem?_drop] at hx; exact ⟨by assumption, hx⟩
          · simp at hx
        have hlen : ((es.drop off).take len).length = len := by rw [List.length_take, List.length_drop]; omega
        have hmem : ∀ i j : Nat, ∃ v, ∀ x, elt es (off + i) j = some x → w.cell? ⟨b, (off + i) * sz' + j, none⟩ = some v ∧ v.oneCell' = true ∧ x.isCell = true ∧ R c w x v := fun i j => by
          cases hx : elt es (off + i) j with
          | none => exact ⟨default, fun x h => by cases h⟩
          | some x => obtain ⟨v, hv⟩ := hcell _ _ _ hx; exact ⟨v, fun y hy => by cases hy; exact hv⟩
        have key := R.row (c := c0 (lentI0 c F (oldB w0 L))) (w := w) (own := own) (sz := sz') (es := (es.drop off).take len) (A := A) (cap := cap - off) b (off * sz') (fun i j => (hmem i j).choose)
          (by rw [hlen]; omega) (by omega) (fun hlt => ⟨hA (by rw [hlen] at hlt; omega), .inr (.inl ⟨s, hFb⟩)⟩) (fun e he => a6 e (List.mem_of_mem_drop (List.mem_of_mem_take he)))
          (fun i j x hx => ((hmem i j).choose_spec x (hel i j x hx).2).2.2.1)
          (fun i j x hx => by have := ((hmem i j).choose_spec x (hel i j x hx).2).1; rw [← this]; congr 2; rw [Nat.add_mul])
          (fun i j x hx => ((hmem i j).choose_spec x (hel i j x hx).2).2.1)
          (fun i j x hx => ((hmem i j).choose_spec x (hel i j x hx).2).2.2.2.free hI (fun _ _ => rfl) (by have := ((hmem i j).choose_spec x (hel i j x hx).2).2.2.1; cases x <;> simp_all [AV.isCell, AV.isFree]))
        rw [hlen] at key
        exact key
  · obtain ⟨rfl, rfl⟩ := hl
    exact hX.free hI (fun _ _ => rfl) rfl
  · rename_i k s j xs' j'
    split at hl
    case h_2 => exact hl.elim
    rename_i xs hs
    obtain ⟨rfl, hfree, hl⟩ := hl
    cases hX with | @ptr _ _ b hp =>
    obtain ⟨b', hat, hFb, vs, hR, hv⟩ := h.varCells (h.look hm hp hs)
    rw [hp] at hat; cases hat
    have hlen := hR.length
    have hmem : ∀ i : Nat, ∃ v, ∀ y, xs'[i]? = some y → w.cell? ⟨b, i, none⟩ = some v ∧ v.oneCell' = true ∧ R (c0 (lentI0 c F (oldB w0 L))) w y v := fun i => by
      cases hy : xs'[i]? with
      | none => exact ⟨default, fun x h => by cases h⟩
      | some y =>
        obtain ⟨x, hx, hxy⟩ := all2_at hl i y hy
        have hi : i < vs.length := by rw [← hlen]; exact (List.getElem?_eq_some_iff.1 hx).1
        have hvi : vs[i]? = some vs[i] := by simp [hi]
        exact ⟨vs[i], fun z hz => by cases hz; exact ⟨hv _ _ hvi, (hR.at hx hvi).2, ih k (by omega) (hR.at hx hvi).1 hxy⟩⟩
    have key := R.bptr (c := c0 (lentI0 c F (oldB w0 L))) (w := w) (xs := xs') (j := j') b 0 (fun i => (hmem i).choose) (.inr (.inl ⟨s, hFb⟩))
      (fun i x hx => List.all_eq_true.1 hfree _ (List.mem_of_getElem? hx))
      (fun i x hx => by rw [Nat.zero_add]; exact ((hmem i).choose_spec x hx).1)
      (fun i x hx => ((hmem i).choose_spec x hx).2.1)
      (fun i x hx => ((hmem i).choose_spec x hx).2.2)
    simpa using key
  · rename_i k s i j xs' j'
    split at hl
    case h_2 => exact hl.elim
    rename_i sz es hs
    obtain ⟨e, he, rfl, rfl⟩ := hl
    cases hX with | @eptr _ _ _ b cap sz' hp =>
    rcases h.rowAll (h.look hm hp hs) with ⟨hat, rfl⟩ | ⟨b', cap', hat, a3, a4, a6, hFb, hcell⟩
    · simp at he
    rw [hp] at hat; cases hat
    have hmem : ∀ k : Nat, ∃ v, ∀ x, e[k]? = some x → w.cell? ⟨b, i * sz + k, none⟩ = some v ∧ v.oneCell' = true ∧ x.isCell = true ∧ R c w x v := fun k => by
      cases hx : e[k]? with
      | none => exact ⟨default, fun x h => by cases h⟩
      | some x => obtain ⟨v, hv⟩ := hcell i k x (by simp [elt, he, hx]); exact ⟨v, fun y hy => by cases hy; exact hv⟩
    have hget : ∀ (i : Nat) (x : AV), (e.map AV.bor)[i]? = some x → ∃ y, e[i]? = some y ∧ x = y.bor := fun i x hx => by
      rw [List.getElem?_map] at hx
      cases hy : e[i]? with
      | none => simp [hy] at hx
      | some y => simp [hy] at hx; exact ⟨y, rfl, hx.symm⟩
    have hfr : ∀ y : AV, y.isCell = true → y.isFree = true := fun y hy => by cases y <;> simp_all [AV.isCell, AV.isFree]
    exact R.bptr (c := c0 (lentI0 c F (oldB w0 L))) (w := w) (xs := e.map AV.bor) (j := j') b (i * sz) (fun i => (hmem i).choose) (.inr (.inl ⟨s, hFb⟩))
      (fun i x hx => by obtain ⟨y, hy, rfl⟩ := hget i x hx; exact AV.bor_free (hfr _ ((hmem i).choose_spec y hy).2.2.1))
      (fun i x hx => by obtain ⟨y, hy, rfl⟩ := hget i x hx; exact ((hmem i).choose_spec y hy).1)
      (fun i x hx => by obtain ⟨y, hy, rfl⟩ := hget i x hx; exact ((hmem i).choose_spec y hy).2.1)
      (fun i x hx => by obtain ⟨y, hy, rfl⟩ := hget i x hx; exact (((hmem i).choose_spec y hy).2.2.2.free (c' := c0 (lentI0 c F (oldB w0 L))) (fun b hb => .inl hb) (fun _ _ => rfl) (hfr _ ((hmem i).choose_spec y hy).2.2.1)).bor)
  · rename_i k f caps f' caps'
    obtain ⟨rfl, hl⟩ := hl
    cases hX with | fn a1 a0 a2 =>
    refine .fn (by rw [a1, all2_len hl]) a0 fun i y v hy hv => ?_
    obtain ⟨x, hx, hxy⟩ := all2_at hl i y hy
    exact ih k (by omega) (a2 i x v hx hv) hxy
  · exact hl.elim

theorem lendT_ok (h : H w0 L n σ a w c F) {m : Nat → Option Blk} (hm : Sup σ m) {t u : T} {v : Value} (hX : RT c w t v) (hl : LendT m t u) : RT (c0 (lentI0 c F (oldB w0 L))) w u v := by
  unfold LendT at hl
  split at hl
  · trivial
  · exact ⟨lendA_ok h hm 4 hX.1 hl, hX.2⟩
  · rename_i xs ys
    cases v <;> try exact hX.elim
    rename_i vs
    have hR : RL c w xs vs.toList := hX
    refine RL.of (by rw [← all2_len hl]; exact hR.length) fun i y v hy hv => ?_
    obtain ⟨x, hx, hxy⟩ := all2_at hl i y hy
    exact ⟨lendA_ok h hm 4 (hR.at hx hv).1 hxy, (hR.at hx hv).2⟩
  · exact hl.elim

theorem all2_mono {p q : AV → AV → Prop} (h : ∀ x y, p x y → q x y) : ∀ {xs ys : List AV}, all2 p xs ys → all2 q xs ys
  | [], [], _ => trivial
  | _ :: _, _ :: _, hp => ⟨h _ _ hp.1, all2_mono h hp.2⟩
theorem LendA.up {m m' : Nat → Option Blk} (hm : ∀ s k, m s = some k → m' s = some k) : ∀ (k : Nat) {x y : AV}, LendA m k x y → LendA m' k x y := by
  intro k
  induction k using Nat.strongRecOn with
  | _ k ih =>
  intro x y h
  unfold LendA at h ⊢
  split at h <;> try exact h
  · exact h.imp id (Or.imp id fun ⟨s, hs⟩ => ⟨s, hm _ _ hs⟩)
  · exact h.imp id fun ⟨s, hs⟩ => ⟨s, hm _ _ hs⟩
  · split at h
    · rename_i hs; rw [hm _ _ hs]; exact h
    · exact h.elim
  · split at h
    · rename_i hs; rw [hm _ _ hs]; exact ⟨h.1, h.2.1, all2_mono (fun x y => ih _ (by omega)) h.2.2⟩
    · exact h.elim
  · split at h
    · rename_i hs; rw [hm _ _ hs]; exact h
    · exact h.elim
  · exact ⟨h.1, all2_mono (fun x y => ih _ (by omega)) h.2⟩
theorem LendT.up {m m' : Nat → Option Blk} (hm : ∀ s k, m s = some k → m' s = some k) {t u : T} (h : LendT m t u) : LendT m' t u := by
  unfold LendT at h ⊢
  split at h <;> try exact h
  · exact h.up hm
  · exact all2_mono (fun x y h => h.up hm) h
theorem LendTs.up {m m' : Nat → Option Blk} (hm : ∀ s k, m s = some k → m' s = some k) : ∀ {ts us : List T}, LendTs m ts us → LendTs m' ts us
  | [], [], _ => trivial
  | _ :: _, _ :: _, h => ⟨h.1.up hm, LendTs.up hm h.2⟩

end
end Go.Proofs.Ytlijeincckbdaaa
namespace Go.Proofs.Ytlijeincckbdaaa
open Go.RowKit
set_option linter.unusedSimpArgs false
set_option linter.unusedVariables false

/-- It holds nothing that is only read. -/
def AV.nb : Nat → AV → Bool
  | _, .lit _ => true
  | k + 1, .row true _ es => es.all fun e => e.all (AV.nb k)
  | _, _ => false
def T.nb : T → Bool
  | .one x => x.nb 5
  | .agg xs => xs.all (AV.nb 5)
  | .tup ts => ts.all fun t => t.2.all (AV.nb 5)
  | .dead => false

/-- What is handed back, with all blocks that it owns. -/
def ROL (c : Ctx) (w : World) : (Nat → Prop) → List AV → List Value → Prop
  | F, [], [] => ∀ k, ¬ F k
  | F, x :: xs, v :: vs => ∃ F1 F2 : Nat → Prop, (RO c w F1 x v ∧ v.oneCell' = true) ∧ ROL c w F2 xs vs ∧ (∀ k, F1 k → ¬ F2 k) ∧ ∀ k, F k ↔ F1 k ∨ F2 k
  | _, _, _ => False
def ROTs (c : Ctx) (w : World) : (Nat → Prop) → List (Bool × List AV) → List Value → Prop
  | F, [], [] => ∀ k, ¬ F k
  | F, (false, [x]) :: xs, v :: vs => ∃ F1 F2 : Nat → Prop, (RO c w F1 x v ∧ v.oneCell' = true) ∧ ROTs c w F2 xs vs ∧ (∀ k, F1 k → ¬ F2 k) ∧ ∀ k, F k ↔ F1 k ∨ F2 k
  | F, (true, ys) :: xs, .agg us :: vs => ∃ F1 F2 : Nat → Prop, ROL c w F1 ys us.toList ∧ ROTs c w F2 xs vs ∧ (∀ k, F1 k → ¬ F2 k) ∧ ∀ k, F k ↔ F1 k ∨ F2 k
  | _, _, _ => False
def ROT' (c : Ctx) (w : World) (F : Nat → Prop) : T → Value → Prop
  | .one x, v => RO c w F x v ∧ v.oneCell' = true
  | .agg xs, .agg vs => ROL c w F xs vs.toList
  | .tup ts, .tuple vs => ROTs c w F ts vs.toList
  | _, _ => False

def Callable (P : Program) (f : FuncId) : Prop := ∃ fn, P.funcs[f]? = some fn ∧ fn.body.isNone = false ∧ (fn.name == "runtime.NumGoroutine") = false

/-- THE CONTRACT: called with arguments that read so, the function hands this back, in new memory, and writes to nothing that was there. -/
def Fun1 (P : Program) (f : FuncId) (args : List T) (r : T) : Prop :=
  Callable P f ∧ r.nb = true ∧ ∀ (w : World) (I : Nat → Prop) (vs : Array Value), (∀ b, I b → b < w.heap.size) → RTL (c0 I) w args vs.toList →
    Calls P f vs w fun e w' => ∃ v F, e = .returned v ∧ ROT' (c0 I) w' F r v ∧ (∀ k, F k → w.heap.size ≤ k ∧ k < w'.heap.size) ∧ Bel w.heap.size w w'

def openAV (s : Nat) : AV → AV × News
  | .row true sz es => (.loc s 0 es.length, [(s, .row true sz es)])
  | x => (x, [])
def openL (s : Nat) : List AV → List AV × News
  | [] => ([], [])
  | x :: xs => ((openAV s x).1 :: (openL (s + 1) xs).1, (openAV s x).2 ++ (openL (s + 1) xs).2)
def openTs (s : Nat) : List (Bool × List AV) → List (Bool × List AV) × News
  | [] => ([], [])
  | (b, xs) :: ts => ((b, (openL s xs).1) :: (openTs (s + xs.length) ts).1, (openL s xs).2 ++ (openTs (s + xs.length) ts).2)
def openT (s : Nat) : T → T × News
  | .one x => (.one (openAV s x).1, (openAV s x).2)
  | .agg xs => (.agg (openL s xs).1, (openL s xs).2)
  | .tup ts => (.tup (openTs s ts).1, (openTs s ts).2)
  | .dead => (.dead, [])

def opCall (P : Program) (m : Nat → Option Blk) (K : T → News → Prop) (site : Nat) (f : T) (ts : List T) : Prop :=
  match f with
  | .one (.fn f caps) => ∃ us r, Fun1 P f us r ∧ LendTs m (ts ++ caps.map T.one) us ∧ K (openT site r).1 (openT site r).2
  | _ => False

section
variable {P : Program} {w0 w : World} {L : Nat → Prop} {n : Nat} {σ : AS} {a : Act} {c : Ctx} {F : Nat → Nat → Prop} {K : T → News → Prop}

theorem RO.nb {c c' : Ctx} {w : World} {F : Nat → Prop} {x : AV} {v : Value} (h : RO c w F x v) : ∀ k, x.nb k = true → RO c' w F x v := by
  induction h with
  | @plain F x v a1 a2 a3 =>
    intro k hk
    cases x <;> first | (cases k <;> simp [AV.nb] at hk; done) | skip
    · cases a2; exact .plain rfl (.lit _) a3
    · cases k with
      | zero => simp [AV.nb] at hk
      | succ k => simp [AV.isData] at a1; subst a1; simp [AV.nb] at hk
  | nil a => exact fun _ _ => .nil a
  | @own F sz es cap A b C e fz G a1 a2 a3 a4 a5 a6 a7 a8 a9 a10 a11 a12 a13 ih =>
    intro k hk
    cases k with
    | zero => simp [AV.nb] at hk
    | succ k =>
      refine .own b C e fz G a1 a2 a3 a4 a5 a6 a7 (fun i j x v hx hv => ih i j x v hx hv k ?_) a9 a10 a11 a12 a13
      simp only [AV.nb, List.all_eq_true] at hk
      unfold elt at hx
      cases he : es[i]? with
      | none => simp [he] at hx
      | some e => simp [he] at hx; exact hk e (List.mem_of_getElem? he) x (List.mem_of_getElem? hx)

theorem ROL.nb {c c' : Ctx} {w : World} : ∀ {F : Nat → Prop} {xs : List AV} {vs : List Value}, ROL c w F xs vs → xs.all (AV.nb 5) = true → ROL c' w F xs vs
  | _, [], [], h, _ => h
  | _, x :: xs, v :: vs, ⟨F1, F2, h1, h2, h3, h4⟩, h => by
    simp only [List.all_cons, Bool.and_eq_true] at h
    exact ⟨F1, F2, ⟨h1.1.nb 5 h.1, h1.2⟩, ROL.nb h2 h.2, h3, h4⟩
theorem ROTs.nb {c c' : Ctx} {w : World} : ∀ {F : Nat → Prop} {ts : List (Bool × List AV)} {vs : List Value}, ROTs c w F ts vs → (ts.all fun t => t.2.all (AV.nb 5)) = true → ROTs c' w F ts vs
  | _, [], [], h, _ => h
  | _, (false, [x]) :: xs, v :: vs, ⟨F1, F2, h1, h2, h3, h4⟩, h => by
    simp only [List.all_cons, Bool.and_eq_true, List.all_nil, Bool.and_true] at h
    exact ⟨F1, F2, ⟨h1.1.nb 5 h.1, h1.2⟩, ROTs.nb h2 h.2, h3, h4⟩
  | _, (true, ys) :: xs, .agg us :: vs, ⟨F1, F2, h1, h2, h3, h4⟩, h => by
    simp only [List.all_cons, Bool.and_eq_true] at h
    exact ⟨F1, F2, ROL.nb h1 h.1, ROTs.nb h2 h.2, h3, h4⟩
theorem ROT'.nb {c c' : Ctx} {w : World} {F : Nat → Prop} {t : T} {v : Value} (h : ROT' c w F t v) (hn : t.nb = true) : ROT' c' w F t v := by
  cases t with
  | dead => cases v <;> exact h.elim
  | one x => exact ⟨h.1.nb 5 hn, h.2⟩
  | agg xs => cases v <;> first | exact h.elim | exact ROL.nb h hn
  | tup ts => cases v <;> first | exact h.elim | exact ROTs.nb h hn

theorem ROL.mono {c c' : Ctx} {w w' : World} (h1 : ∀ s i, c.at_ s = some i → c'.at_ s = some i) (h2 : ∀ b, c.I b → c'.I b) (h3 : ∀ b, c.I b → w'.heap[b]? = w.heap[b]?) : ∀ {F : Nat → Prop} {xs : List AV} {vs : List Value}, ROL c w F xs vs → (∀ b, F b → w'.heap[b]? = w.heap[b]?) → ROL c' w' F xs vs
  | _, [], [], h, _ => h
  | _, x :: xs, v :: vs, ⟨F1, F2, h4, h5, h6, h7⟩, hF => ⟨F1, F2, ⟨h4.1.mono h1 h2 h3 fun b hb => hF b ((h7 b).2 (.inl hb)), h4.2⟩, ROL.mono h1 h2 h3 h5 (fun b hb => hF b ((h7 b).2 (.inr hb))), h6, h7⟩
theorem ROTs.mono {c c' : Ctx} {w w' : World} (h1 : ∀ s i, c.at_ s = some i → c'.at_ s = some i) (h2 : ∀ b, c.I b → c'.I b) (h3 : ∀ b, c.I b → w'.heap[b]? = w.heap[b]?) : ∀ {F : Nat → Prop} {xs : List (Bool × List AV)} {vs : List Value}, ROTs c w F xs vs → (∀ b, F b → w'.heap[b]? = w.heap[b]?) → ROTs c' w' F xs vs
  | _, [], [], h, _ => h
  | _, (false, [x]) :: xs, v :: vs, ⟨F1, F2, h4, h5, h6, h7⟩, hF => ⟨F1, F2, ⟨h4.1.mono h1 h2 h3 fun b hb => hF b ((h7 b).2 (.inl hb)), h4.2⟩, ROTs.mono h1 h2 h3 h5 (fun b hb => hF b ((h7 b).2 (.inr hb))), h6, h7⟩
  | _, (true, ys) :: xs, .agg us :: vs, ⟨F1, F2, h4, h5, h6, h7⟩, hF => ⟨F1, F2, ROL.mono h1 h2 h3 h4 (fun b hb => hF b ((h7 b).2 (.inl hb))), ROTs.mono h1 h2 h3 h5 (fun b hb => hF b ((h7 b).2 (.inr hb))), h6, h7⟩
theorem ROT'.mono {c c' : Ctx} {w w' : World} (h1 : ∀ s i, c.at_ s = some i → c'.at_ s = some i) (h2 : ∀ b, c.I b → c'.I b) (h3 : ∀ b, c.I b → w'.heap[b]? = w.heap[b]?) {F : Nat → Prop} {t : T} {v : Value} (h : ROT' c w F t v) (hF : ∀ b, F b → w'.heap[b]? = w.heap[b]?) : ROT' c' w' F t v := by
  cases t with
  | dead => cases v <;> exact h.elim
  | one x => exact ⟨h.1.mono h1 h2 h3 hF, h.2⟩
  | agg xs => cases v <;> first | exact h.elim | exact ROL.mono h1 h2 h3 h hF
  | tup ts => cases v <;> first | exact h.elim | exact ROTs.mono h1 h2 h3 h hF

/-- A new place, in blocks that nobody has. -/
theorem H.addSite' (h : H w0 L n σ a w c F) {s : Nat} {k : Blk} (hs : σ.mem s = none) {i : SI} {G : Nat → Prop}
    (hG : ∀ b, G b → (w0.heap.size ≤ b ∨ L b) ∧ b < w.heap.size ∧ ∀ s', ¬ F s' b) (hT : ∀ b, i.isTop b → G b → ¬ c.I b) (hk : BlkOk (c.add s i (fun b => G b ∧ ¬ i.isTop b)) w G s k) (hkp : k.isArg = false := by rfl) :
    H w0 L n (σ.add s k) a w (c.add s i (fun b => G b ∧ ¬ i.isTop b)) (fun s' b => (s' = s ∧ G b) ∨ F s' b) := by
  have hd := h.dom s hs
  obtain ⟨e1, e2⟩ := Ctx.add_ext hd.1 i (fun b => G b ∧ ¬ i.isTop b)
  have hF : (fun b => (s = s ∧ G b) ∨ F s b) = G := by funext b; simp [hd.2 b]
  have hns : ∀ s' b, s' ≠ s → ((s' = s ∧ G b) ∨ F s' b ↔ F s' b) := fun s' b hn => by simp [hn]
  refine ⟨h.keeps, h.size, h.defers, fun t => (h.tm t).mono e1 e2 (fun _ _ => rfl), fun s' k' hk' => ?_, fun s' hs' => ?_, fun s1 s2 b h1 h2 => ?_, fun s' b hb' => ?_, fun b hb' => ?_, fun s' b hb' => ?_, fun s' v x hs' => by
    by_cases e : s' = s
    · subst e; simp [AS.add] at hs'; subst hs'; cases hkp
    · simp [AS.add, e] at hs'; obtain ⟨q1, q2, q3⟩ := h.par s' v x hs'; exact ⟨q1, q2, fun k hk => .inl (q3 k hk)⟩⟩
  · by_cases e : s' = s
    · subst e
      simp [AS.add] at hk'
      subst hk'
      rw [hF]; exact hk
    · simp [AS.add, e] at hk'
      have := (h.mem s' k' hk').mono e1 e2 (fun _ _ => rfl) (fun _ _ => rfl)
      rw [show (fun b => (s' = s ∧ G b) ∨ F s' b) = F s' from funext fun b => propext (hns s' b e)]
      exact this
  · have e : s' ≠ s := fun e => by subst e; simp [AS.add] at hs'
    simp [AS.add, e] at hs'
    have := h.dom s' hs'
    exact ⟨by simp [Ctx.add, e, this.1], fun b => by rw [hns s' b e]; exact this.2 b⟩
  · rcases h1 with ⟨rfl, h1⟩ | h1 <;> rcases h2 with ⟨rfl, h2⟩ | h2
    · rfl
    · exact absurd h2 ((hG b h1).2.2 _)
    · exact absurd h1 ((hG b h2).2.2 _)
    · exact h.disj _ _ _ h1 h2
  · rcases hb' with ⟨rfl, h1⟩ | h1
    · exact ⟨(hG b h1).1, (hG b h1).2.1⟩
    · exact h.new _ _ h1
  · rcases hb' with h1 | h1
    · exact h.imm _ h1
    · exact (hG b h1.1).2.1
  · by_cases e : s' = s
    · subst e
      have hg : G b := by rcases hb' with h1 | h1; exact h1.2; exact absurd h1 (hd.2 b)
      rw [Ctx.top_add_self]
      constructor
      · rintro (h1 | h1)
        · exact fun ht => hT b ht hg h1
        · exact h1.2
      · exact fun h1 => .inr ⟨hg, h1⟩
    · rw [Ctx.top_add_ne c e]
      have h1 : F s' b := (hns s' b e).1 hb'
      rw [← h.inn s' b h1]
      constructor
      · rintro (h2 | h2)
        · exact h2
        · exact absurd h1 ((hG b h2.1).2.2 _)
      · exact .inl

theorem adds_append (l1 l2 : News) : ∀ σ : AS, σ.adds (l1 ++ l2) = (σ.adds l1).adds l2 := by
  induction l1 with
  | nil => intro σ; rfl
  | cons x l ih => intro σ; obtain ⟨s, k⟩ := x; exact ih _

/-- Where nothing else is known of new blocks: they are at hand to be made places. -/
def Spare (w0 w : World) (c : Ctx) (F : Nat → Nat → Prop) (G : Nat → Prop) : Prop := ∀ b, G b → w0.heap.size ≤ b ∧ b < w.heap.size ∧ (∀ s', ¬ F s' b) ∧ ¬ c.I b

/-- How one state's places grow into another's. -/
structure Grow (c c' : Ctx) (F F' : Nat → Nat → Prop) (G : Nat → Prop) : Prop where
  at_ : ∀ s i, c.at_ s = some i → c'.at_ s = some i
  I : ∀ b, c.I b → c'.I b
  F : ∀ s b, F' s b → F s b ∨ G b
  J : ∀ b, c'.I b → c.I b ∨ G b
theorem Grow.refl (c : Ctx) (F : Nat → Nat → Prop) (G : Nat → Prop) : Grow c c F F G := ⟨fun _ _ h => h, fun _ h => h, fun _ _ h => .inl h, fun _ h => .inl h⟩
theorem Grow.trans {c c' c'' : Ctx} {F F' F'' : Nat → Nat → Prop} {G G' G'' : Nat → Prop} (h : Grow c c' F F' G) (k : Grow c' c'' F' F'' G') (h1 : ∀ b, G b → G'' b) (h2 : ∀ b, G' b → G'' b) : Grow c c'' F F'' G'' :=
  ⟨fun s i hs => k.at_ s i (h.at_ s i hs), fun b hb => k.I b (h.I b hb), fun s b hb => (k.F s b hb).elim (fun h' => (h.F s b h').imp id (h1 b)) (fun h' => .inr (h2 b h')), fun b hb => (k.J b hb).elim (fun h' => (h.J b h').imp id (h1 b)) (fun h' => .inr (h2 b h'))⟩
theorem Spare.mono {c c' : Ctx} {F F' : Nat → Nat → Prop} {G G1 : Nat → Prop} (h : Spare w0 w c F G) (g : Grow c c' F F' G1) (hd : ∀ b, G b → ¬ G1 b) : Spare w0 w c' F' G :=
  fun b hb => ⟨(h b hb).1, (h b hb).2.1, fun s hs => (g.F s b hs).elim ((h b hb).2.2.1 s) (hd b hb), fun hI => (g.J b hI).elim (h b hb).2.2.2 (hd b hb)⟩

theorem openAV_ok (h : H w0 L n σ a w c F) {s : Nat} {x : AV} {v : Value} {G : Nat → Prop} (hG : Spare w0 w c F G) (hf : Fresh σ.mem (openAV s x).2) (hX : RO c w G x v) :
    ∃ c' F', H w0 L n (σ.adds (openAV s x).2) a w c' F' ∧ R c' w (openAV s x).1 v ∧ Grow c c' F F' G := by
  by_cases hx : ∃ sz es, x = .row true sz es
  · obtain ⟨sz, es, rfl⟩ := hx
    have hs : σ.mem s = none := hf _ (List.mem_singleton.2 rfl)
    have hd := h.dom s hs
    rcases hX.inv with ⟨rfl, rfl, hn⟩ | ⟨b, cap, A, rfl, hA13, hB⟩
    · refine ⟨_, _, h.addSite' (i := .nil) (G := G) hs (fun b hb => ⟨.inl (hG b hb).1, (hG b hb).2.1, (hG b hb).2.2.1⟩) (fun b _ hb => (hG b hb).2.2.2) (.inl ⟨by simp [Ctx.add], rfl, hn⟩), .locnil (by simp [Ctx.add]), ?_⟩
      exact ⟨(Ctx.add_ext hd.1 _ _).1, (Ctx.add_ext hd.1 _ _).2, fun s' b hb => hb.elim (fun h => .inr h.2) .inl, fun b hb => hb.elim .inl (fun h => .inr h.1)⟩
    · have hB' := hB
      obtain ⟨C, e, fz, G', a1, a2, a3, a4, a5, a6, a7, a8, a9, a10, a11, a12⟩ := hB'
      obtain ⟨e1, e2⟩ := Ctx.add_ext hd.1 (.row b cap sz) (fun k => G k ∧ ¬ (SI.row b cap sz).isTop k)
      refine ⟨_, _, h.addSite' (i := .row b cap sz) (G := G) hs (fun b hb => ⟨.inl (hG b hb).1, (hG b hb).2.1, (hG b hb).2.2.1⟩) (fun b _ hb => (hG b hb).2.2.2) (.inr ⟨b, cap, by simp [Ctx.add], hB.mono e1 e2 (fun _ _ => rfl) (fun _ _ => rfl)⟩), ?_, ?_⟩
      · have := R.loc (c := c.add s (.row b cap sz) (fun k => G k ∧ ¬ (SI.row b cap sz).isTop k)) (w := w) (s := s) (off := 0) (len := es.length) (b := b) (cap := cap) (sz := sz) (A := A) (by simp [Ctx.add]) (by omega) (fun h0 => by simpa using hA13 h0)
        show R _ w (.loc s 0 es.length) _
        simpa using this
      · exact ⟨e1, e2, fun s' b hb => hb.elim (fun h => .inr h.2) .inl, fun b hb => hb.elim .inl (fun h => .inr h.1)⟩
  · have ho : openAV s x = (x, []) := by
      cases x <;> first | rfl | skip
      rename_i own sz es
      cases own
      · rfl
      · exact absurd ⟨sz, es, rfl⟩ hx
    rw [ho]
    refine ⟨c, F, h, ?_, Grow.refl _ _ _⟩
    cases hX with
    | plain _ h1 _ => exact h1
    | nil => exact absurd ⟨_, _, rfl⟩ hx
    | own => exact absurd ⟨_, _, rfl⟩ hx

theorem adds_mem_ne {l : News} {s : Nat} (h : ∀ x ∈ l, x.1 ≠ s) : ∀ {σ : AS}, (σ.adds l).mem s = σ.mem s := by
  induction l with
  | nil => intro σ; rfl
  | cons x l ih =>
    intro σ
    obtain ⟨s', k⟩ := x
    simp only [AS.adds]
    rw [ih (fun y hy => h y (by simp [hy]))]
    have : s ≠ s' := fun e => h (s', k) (by simp) e.symm
    simp [AS.add, this]

theorem openAV_sites {s : Nat} {x : AV} : ∀ y ∈ (openAV s x).2, y.1 = s := by
  intro y hy
  unfold openAV at hy
  split at hy <;> simp at hy
  rw [hy]
theorem openL_sites : ∀ {xs : List AV} {s : Nat}, ∀ y ∈ (openL s xs).2, s ≤ y.1 ∧ y.1 < s + xs.length
  | [], s, y, hy => by simp [openL] at hy
  | x :: xs, s, y, hy => by
    simp only [openL, List.mem_append] at hy
    rcases hy with hy | hy
    · have := openAV_sites y hy; simp; omega
    · have := openL_sites y hy; simp; omega
theorem openL_length : ∀ {xs : List AV} {s : Nat}, (openL s xs).1.length = xs.length
  | [], _ => rfl
  | x :: xs, s => by simp [openL, openL_length]

theorem Fresh.left {m : Nat → Option Blk} {l1 l2 : News} (h : Fresh m (l1 ++ l2)) : Fresh m l1 := fun x hx => h x (by simp [hx])
theorem Fresh.right {l1 l2 : News} (h : Fresh σ.mem (l1 ++ l2)) (hd : ∀ x ∈ l1, ∀ y ∈ l2, x.1 ≠ y.1) : Fresh (σ.adds l1).mem l2 := fun y hy => by
  rw [adds_mem_ne fun x hx => hd x hx y hy]
  exact h y (by simp [hy])

theorem openL_ok : ∀ {xs : List AV} {vs : List Value} {σ : AS} {c : Ctx} {F : Nat → Nat → Prop} {s : Nat} {G : Nat → Prop}, H w0 L n σ a w c F → Spare w0 w c F G → Fresh σ.mem (openL s xs).2 → ROL c w G xs vs →
    ∃ c' F', H w0 L n (σ.adds (openL s xs).2) a w c' F' ∧ RL c' w (openL s xs).1 vs ∧ Grow c c' F F' G
  | [], [], σ, c, F, s, G, h, hG, hf, hX => ⟨c, F, h, trivial, Grow.refl _ _ _⟩
  | x :: xs, v :: vs, σ, c, F, s, G, h, hG, hf, ⟨F1, F2, h1, h2, h3, h4⟩ => by
    obtain ⟨c1, F', h5, h6, h7⟩ := openAV_ok (s := s) h (fun b hb => hG b ((h4 b).2 (.inl hb))) hf.left h1.1
    have hd : ∀ x' ∈ (openAV s x).2, ∀ y ∈ (openL (s + 1) xs).2, x'.1 ≠ y.1 := fun x' hx y hy => by
      have := openAV_sites x' hx; have := openL_sites y hy; omega
    have hG2 : Spare w0 w c1 F' F2 := Spare.mono (fun b hb => hG b ((h4 b).2 (.inr hb))) h7 (fun b hb hb1 => h3 b hb1 hb)
    obtain ⟨c2, F'', h8, h9, h10⟩ := openL_ok (s := s + 1) h5 hG2 (hf.right hd) (h2.mono h7.at_ h7.I (fun _ _ => rfl) (fun _ _ => rfl))
    refine ⟨c2, F'', ?_, ⟨⟨h6.mono h10.at_ h10.I (fun _ _ => rfl), h1.2⟩, h9⟩, h7.trans h10 (fun b hb => (h4 b).2 (.inl hb)) (fun b hb => (h4 b).2 (.inr hb))⟩
    simp only [openL, adds_append]
    exact h8

theorem openTs_sites : ∀ {ts : List (Bool × List AV)} {s : Nat}, ∀ y ∈ (openTs s ts).2, s ≤ y.1
  | [], s, y, hy => by simp [openTs] at hy
  | (b, xs) :: ts, s, y, hy => by
    simp only [openTs, List.mem_append] at hy
    rcases hy with hy | hy
    · exact (openL_sites y hy).1
    · have := openTs_sites y hy; omega

theorem openTs_ok : ∀ {ts : List (Bool × List AV)} {vs : List Value} {σ : AS} {c : Ctx} {F : Nat → Nat → Prop} {s : Nat} {G : Nat → Prop}, H w0 L n σ a w c F → Spare w0 w c F G → Fresh σ.mem (openTs s ts).2 → ROTs c w G ts vs →
    ∃ c' F', H w0 L n (σ.adds (openTs s ts).2) a w c' F' ∧ RTs c' w (openTs s ts).1 vs ∧ Grow c c' F F' G
  | [], [], σ, c, F, s, G, h, hG, hf, hX => ⟨c, F, h, trivial, Grow.refl _ _ _⟩
  | (false, [x]) :: ts, v :: vs, σ, c, F, s, G, h, hG, hf, ⟨F1, F2, h1, h2, h3, h4⟩ => by
    simp only [openTs, openL, List.append_nil, List.length_cons, List.length_nil, Nat.zero_add] at hf ⊢
    obtain ⟨c1, F', h5, h6, h7⟩ := openAV_ok (s := s) h (fun b hb => hG b ((h4 b).2 (.inl hb))) hf.left h1.1
    have hd : ∀ x' ∈ (openAV s x).2, ∀ y ∈ (openTs (s + 1) ts).2, x'.1 ≠ y.1 := fun x' hx y hy => by
      have := openAV_sites x' hx; have := openTs_sites y hy; omega
    have hG2 : Spare w0 w c1 F' F2 := Spare.mono (fun b hb => hG b ((h4 b).2 (.inr hb))) h7 (fun b hb hb1 => h3 b hb1 hb)
    obtain ⟨c2, F'', h8, h9, h10⟩ := openTs_ok (s := s + 1) h5 hG2 (hf.right hd) (h2.mono h7.at_ h7.I (fun _ _ => rfl) (fun _ _ => rfl))
    refine ⟨c2, F'', ?_, ⟨⟨h6.mono h10.at_ h10.I (fun _ _ => rfl), h1.2⟩, h9⟩, h7.trans h10 (fun b hb => (h4 b).2 (.inl hb)) (fun b hb => (h4 b).2 (.inr hb))⟩
    rw [adds_append]
    exact h8
  | (true, ys) :: ts, .agg us :: vs, σ, c, F, s, G, h, hG, hf, ⟨F1, F2, h1, h2, h3, h4⟩ => by
    simp only [openTs] at hf ⊢
    obtain ⟨c1, F', h5, h6, h7⟩ := openL_ok (s := s) h (fun b hb => hG b ((h4 b).2 (.inl hb))) hf.left h1
    have hd : ∀ x' ∈ (openL s ys).2, ∀ y ∈ (openTs (s + ys.length) ts).2, x'.1 ≠ y.1 := fun x' hx y hy => by
      have := openL_sites x' hx; have := openTs_sites y hy; omega
    have hG2 : Spare w0 w c1 F' F2 := Spare.mono (fun b hb => hG b ((h4 b).2 (.inr hb))) h7 (fun b hb hb1 => h3 b hb1 hb)
    obtain ⟨c2, F'', h8, h9, h10⟩ := openTs_ok (s := s + ys.length) h5 hG2 (hf.right hd) (h2.mono h7.at_ h7.I (fun _ _ => rfl) (fun _ _ => rfl))
    refine ⟨c2, F'', ?_, ⟨RL.mono h10.at_ h10.I (fun _ _ => rfl) h6, h9⟩, h7.trans h10 (fun b hb => (h4 b).2 (.inl hb)) (fun b hb => (h4 b).2 (.inr hb))⟩
    rw [adds_append]
    exact h8

theorem openT_ok (h : H w0 L n σ a w c F) {s : Nat} {t : T} {v : Value} {G : Nat → Prop} (hG : Spare w0 w c F G) (hf : Fresh σ.mem (openT s t).2) (hX : ROT' c w G t v) :
    Post w0 L n σ a (openT s t).2 (openT s t).1 v w := by
  cases t with
  | dead => cases v <;> exact hX.elim
  | one x =>
    obtain ⟨c', F', h1, h2, h3⟩ := openAV_ok (s := s) h hG hf hX.1
    exact ⟨c', F', h1, h2, hX.2⟩
  | agg xs =>
    cases v <;> try exact hX.elim
    obtain ⟨c', F', h1, h2, h3⟩ := openL_ok (s := s) h hG hf hX
    exact ⟨c', F', h1, h2⟩
  | tup ts =>
    cases v <;> try exact hX.elim
    obtain ⟨c', F', h1, h2, h3⟩ := openTs_ok (s := s) h hG hf hX
    exact ⟨c', F', h1, h2⟩

theorem RTL.append : ∀ {c : Ctx} {xs ys : List T} {vs us : List Value}, RTL c w xs vs → RTL c w ys us → RTL c w (xs ++ ys) (vs ++ us)
  | _, [], _, [], _, _, h => h
  | _, _ :: _, _, _ :: _, _, h, k => ⟨h.1, RTL.append h.2 k⟩
theorem RTL.lend (h : H w0 L n σ a w c F) {m : Nat → Option Blk} (hm : Sup σ m) : ∀ {ts us : List T} {vs : List Value}, RTL c w ts vs → LendTs m ts us → RTL (c0 (lentI0 c F (oldB w0 L))) w us vs
  | [], [], [], _, _ => trivial
  | _ :: _, _ :: _, _ :: _, hX, hl => ⟨lendT_ok h hm hX.1 hl.1, RTL.lend h hm hX.2 hl.2⟩

theorem opCall_ok (h : H w0 L n σ a w c F) {m : Nat → Option Blk} (hm : Sup σ m) {site : Nat} {f : T} {ts : List T} {X : Value} {vs : List Value} (hX : RT c w f X) (hts : RTL c w ts vs) (hk : opCall P m K site f ts) :
    ∃ v news, K v news ∧ (Fresh σ.mem news → ∃ g cs, X = .func (.func g) #[] cs ∧ Callable P g ∧ Calls P g (vs.toArray ++ cs) w fun e w' => ∃ V, e = .returned V ∧ Post w0 L n σ a news v V w') := by
  unfold opCall at hk
  split at hk
  case h_2 => exact hk.elim
  rename_i g caps
  obtain ⟨us, r, hfun, hlend, hk⟩ := hk
  refine ⟨_, _, hk, fun hf => ?_⟩
  obtain ⟨hX, _⟩ := hX
  cases hX with | @fn _ _ cs a1 a0 a2 =>
  have hcaps : RTL c w (caps.map T.one) cs.toList := by
    have key : ∀ (xs : List AV) (us : List Value), xs.length = us.length → (∀ (k : Nat) (x : AV) (v : Value), xs[k]? = some x → us[k]? = some v → R c w x v) → (∀ v ∈ us, v.oneCell' = true) → RTL c w (xs.map T.one) us := by
      intro xs
      induction xs with
      | nil => intro us hl _ _; cases us with | nil => trivial | cons => simp at hl
      | cons x xs ih =>
        intro us hl hr ho
        cases us with
        | nil => simp at hl
        | cons u us => exact ⟨⟨hr 0 x u rfl rfl, ho u (by simp)⟩, ih us (by simpa using hl) (fun k x v hx hv => hr (k + 1) x v (by simpa using hx) (by simpa using hv)) (fun v hv => ho v (by simp [hv]))⟩
    exact key caps cs.toList (by simpa using a1.symm) (fun k x v hx hv => a2 k x v hx (by simpa using hv)) a0
  refine ⟨g, cs, rfl, hfun.1, ?_⟩
  have hargs := hts.append hcaps
  have fin : ∀ w' (G : Nat → Prop) v, Bel w.heap.size w w' → ROT' c w' G r v → (∀ k, G k → w.heap.size ≤ k ∧ k < w'.heap.size) → Post w0 L n σ a (openT site r).2 (openT site r).1 v w' := fun w' G v hb hr hG => by
    refine openT_ok (h.world hb) (fun b hb' => ?_) hf hr
    have := hG b hb'
    exact ⟨Nat.le_trans h.keeps.size this.1, this.2, fun s hs => by have := (h.new s b hs).2; omega, fun hI => by have := h.imm b hI; omega⟩
  have := hfun.2.2 w (lentI0 c F (oldB w0 L)) (vs.toArray ++ cs) (fun b hb => by
    rcases hb with hb | ⟨s, hb⟩ | hb
    · exact h.imm b hb
    · exact (h.new s b hb).2
    · exact Nat.lt_of_lt_of_le hb.1 h.keeps.size) (by simpa using RTL.lend h hm hargs hlend)
  refine this.mono ?_
  rintro e w' ⟨v, G, rfl, hr, hG, hb⟩
  exact ⟨v, rfl, fin w' G v hb (hr.nb hfun.2.1) hG⟩
end
end Go.Proofs.Ytlijeincckbdaaa
