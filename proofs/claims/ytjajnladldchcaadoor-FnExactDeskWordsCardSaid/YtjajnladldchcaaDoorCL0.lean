/- Texts of the proof: an abstract machine for Go functions, contracts of the program's functions, and the row. -/
import Derived.WalkKit
import Derived.Maps.RangeWalk
import Derived.Test.YtjajnladldchcaaDoorChecked
import Derived.Test.YtjajnladldchcaaDoorRows
import Derived.Orders
import Derived.Maps.AppendAt
import Derived.Lib.SliceRun
import Derived.Laws.Cover3
import Derived.Lib.ConvBytes
import Derived.Laws.IdiomStrings
import Derived.Laws.BytesString
import Derived.MapKept
namespace Go.Proofs.YtjajnladldchcaaDoor
def GV : Nat → Option (List Value) := fun _ => none
def DR : Bool := false
def GX (w : World) (I : Nat → Prop) : Prop := ∃ bm n, I 0 ∧ 0 < w.heap.size ∧ I bm ∧ w.cell? ⟨0, 0, none⟩ = some (.map (some bm)) ∧ w.ownsMap (H := Unit) Tryd.prog 9 (plainElem Tryd.prog 9) bm n Rows.laid_loop_example_g00259_impl_kinds
theorem GX.mono {w w' : World} {I I' : Nat → Prop} (h : GX w I) (hI : ∀ b, I b → I' b) (hs : w.heap.size ≤ w'.heap.size) (hw : ∀ b, I b → w'.heap[b]? = w.heap[b]?) : GX w' I' := by
  obtain ⟨bm, n, h1, h2, h3, h4, es, clock, h6, h7⟩ := h
  refine ⟨bm, n, hI _ h1, Nat.lt_of_lt_of_le h2 hs, hI _ h3, ?_, es, clock, (hw _ h3).trans h6, h7⟩
  rw [← h4]
  simp only [World.cell?, hw 0 h1]
end Go.Proofs.YtjajnladldchcaaDoor
namespace Go.Proofs.YtjajnladldchcaaDoor
open Go.RowKit
set_option linter.unusedSimpArgs false
set_option linter.unusedVariables false

inductive AV where
  | dead
  | lit (v : Value)
  | ptr (s j : Nat)
  | eptr (s i j : Nat)
  | loc (s off len : Nat)
  | row (own : Bool) (sz : Nat) (es : List (List AV))
  | bptr (xs : List AV) (j : Nat)
  | fn (f : FuncId) (caps : List AV)
  | nn (sz : Nat) (es : List (List AV))
  deriving Inhabited

inductive T where
  | dead
  | one (x : AV)
  | agg (xs : List AV)
  | tup (ts : List (Bool × List AV))
  deriving Inhabited

inductive SI where
  | var (b : Nat)
  | row (b cap sz : Nat)
  | nil

structure Ctx where
  at_ : Nat → Option SI
  I : Nat → Prop

def elt (es : List (List AV)) (i j : Nat) : Option AV := (es[i]?).bind (·[j]?)

def AV.isData : AV → Bool
  | .lit _ => true
  | .row own _ _ => !own
  | _ => false
def AV.isFree : AV → Bool
  | .lit _ | .row _ _ _ | .bptr _ _ | .dead | .nn _ _ => true
  | _ => false
def AV.isCell : AV → Bool
  | .lit _ | .row _ _ _ => true
  | _ => false
def AV.bor : AV → AV
  | .row _ sz es => .row false sz es
  | .nn sz es => .row false sz es
  | x => x

inductive R (c : Ctx) (w : World) : AV → Value → Prop where
  | dead (v : Value) : R c w .dead v
  | lit (v : Value) : R c w (.lit v) v
  | ptr {s j b : Nat} : c.at_ s = some (.var b) → R c w (.ptr s j) (.pointer (some ⟨b, j, none⟩))
  | eptr {s i j b cap sz : Nat} : c.at_ s = some (.row b cap sz) → R c w (.eptr s i j) (.pointer (some ⟨b, i * sz + j, none⟩))
  | loc {s off len b cap sz : Nat} {A : Option Addr} : c.at_ s = some (.row b cap sz) → off + len ≤ cap → (off < cap → A = some ⟨b, off * sz, none⟩) → R c w (.loc s off len) (.slice A len (cap - off))
  | locnil {s : Nat} : c.at_ s = some .nil → R c w (.loc s 0 0) (.slice none 0 0)
  | row {own : Bool} {sz : Nat} {es : List (List AV)} {A : Option Addr} {cap : Nat} (b o : Nat) (vals : Nat → Nat → Value) :
      es.length ≤ cap → cap ≤ maxLen → (0 < es.length → A = some ⟨b, o, none⟩ ∧ c.I b) → (∀ e ∈ es, e.length = sz) → (∀ (i j : Nat) (x : AV), elt es i j = some x → x.isCell = true) →
      (∀ (i j : Nat) (x : AV), elt es i j = some x → w.cell? ⟨b, o + i * sz + j, none⟩ = some (vals i j)) →
      (∀ (i j : Nat) (x : AV), elt es i j = some x → (vals i j).oneCell' = true) →
      (∀ (i j : Nat) (x : AV), elt es i j = some x → R c w x (vals i j)) → R c w (.row own sz es) (.slice A es.length cap)
  | bptr {xs : List AV} {j : Nat} (b o : Nat) (vals : Nat → Value) : c.I b → (∀ (k : Nat) (x : AV), xs[k]? = some x → x.isFree = true) →
      (∀ (k : Nat) (x : AV), xs[k]? = some x → w.cell? ⟨b, o + k, none⟩ = some (vals k)) →
      (∀ (k : Nat) (x : AV), xs[k]? = some x → (vals k).oneCell' = true) →
      (∀ (k : Nat) (x : AV), xs[k]? = some x → R c w x (vals k)) → R c w (.bptr xs j) (.pointer (some ⟨b, o + j, none⟩))
  | fn {f : FuncId} {caps : List AV} {cs : Array Value} : cs.size = caps.length → (∀ v ∈ cs.toList, v.oneCell' = true) → (∀ (k : Nat) (x : AV) (v : Value), caps[k]? = some x → cs[k]? = some v → R c w x v) →
      R c w (.fn f caps) (.func (.func f) #[] cs)
  | nn {sz : Nat} {es : List (List AV)} {A : Addr} {n cap : Nat} : R c w (.row false sz es) (.slice (some A) n cap) → R c w (.nn sz es) (.slice (some A) n cap)

theorem cell?_same {w w' : World} {b o : Nat} (h : w'.heap[b]? = w.heap[b]?) : w'.cell? ⟨b, o, none⟩ = w.cell? ⟨b, o, none⟩ := World.cell?_of_block (a := ⟨b, o, none⟩) h

theorem R.mono {c c' : Ctx} {w w' : World} (h1 : ∀ s i, c.at_ s = some i → c'.at_ s = some i) (h2 : ∀ b, c.I b → c'.I b) (h3 : ∀ b, c.I b → w'.heap[b]? = w.heap[b]?) {x : AV} {v : Value} (h : R c w x v) : R c' w' x v := by
  induction h with
  | dead v => exact .dead v
  | lit v => exact .lit v
  | ptr h => exact .ptr (h1 _ _ h)
  | eptr h => exact .eptr (h1 _ _ h)
  | loc h a b => exact .loc (h1 _ _ h) a b
  | locnil h => exact .locnil (h1 _ _ h)
  | @row own sz es A cap b o vals a1 a2 a3 a4 a0 a5 a6 a7 ih =>
    refine .row b o vals a1 a2 (fun h => ⟨(a3 h).1, h2 _ (a3 h).2⟩) a4 a0 (fun i j x hx => ?_) a6 ih
    have hl : 0 < es.length := by
      unfold elt at hx
      cases es with
      | nil => simp at hx
      | cons e es => simp
    rw [cell?_same (h3 b (a3 hl).2)]
    exact a5 i j x hx
  | @bptr xs j b o vals a1 a0 a2 a3 a4 ih => exact .bptr b o vals (h2 _ a1) a0 (fun k x hx => by rw [cell?_same (h3 b a1)]; exact a2 k x hx) a3 ih
  | fn a1 a0 a2 ih => exact .fn a1 a0 ih
  | nn h ih => exact .nn ih

theorem bor_cell {x : AV} (h : x.bor.isCell = true) : x.bor.isData = true := by cases x <;> first | rfl | simp [AV.bor, AV.isCell] at h
theorem R.bor {c : Ctx} {w : World} {x : AV} {v : Value} (h : R c w x v) : R c w x.bor v := by
  cases h with
  | row b o vals a1 a2 a3 a4 a5 a6 a7 a8 => exact .row b o vals a1 a2 a3 a4 a5 a6 a7 a8
  | dead v => exact .dead v
  | lit v => exact .lit v
  | ptr h => exact .ptr h
  | eptr h => exact .eptr h
  | loc h a b => exact .loc h a b
  | locnil h => exact .locnil h
  | bptr b o vals a1 a2 a3 a4 a5 => exact .bptr b o vals a1 a2 a3 a4 a5
  | fn a1 a0 a2 => exact .fn a1 a0 a2
  | nn h => exact h

theorem R.free {c c' : Ctx} {w w' : World} (h2 : ∀ b, c.I b → c'.I b) (h3 : ∀ b, c.I b → w'.heap[b]? = w.heap[b]?) {x : AV} {v : Value} (h : R c w x v) : x.isFree = true → R c' w' x v := by
  induction h with
  | dead v => exact fun _ => .dead v
  | lit v => exact fun _ => .lit v
  | ptr h => exact fun h => by simp [AV.isFree] at h
  | eptr h => exact fun h => by simp [AV.isFree] at h
  | loc h a b => exact fun h => by simp [AV.isFree] at h
  | locnil h => exact fun h => by simp [AV.isFree] at h
  | @row own sz es A cap b o vals a1 a2 a3 a4 a0 a5 a6 a7 ih =>
    intro _
    refine .row b o vals a1 a2 (fun h => ⟨(a3 h).1, h2 _ (a3 h).2⟩) a4 a0 (fun i j x hx => ?_) a6 (fun i j x hx => ih i j x hx ?_)
    · have hl : 0 < es.length := by
        unfold elt at hx
        cases es with
        | nil => simp at hx
        | cons e es => simp
      rw [cell?_same (h3 b (a3 hl).2)]
      exact a5 i j x hx
    · have := a0 i j x hx
      cases x <;> simp_all [AV.isCell, AV.isFree]
  | @bptr xs j b o vals a1 a0 a2 a3 a4 ih =>
    exact fun _ => .bptr b o vals (h2 _ a1) a0 (fun k x hx => by rw [cell?_same (h3 b a1)]; exact a2 k x hx) a3 (fun k x hx => ih k x hx (a0 k x hx))
  | fn a1 a0 a2 ih => exact fun h => by simp [AV.isFree] at h
  | nn h ih => exact fun _ => .nn (ih rfl)

def pad (sz : Nat) : Nat := if sz = 1 then 0 else 1
def Unfz (sz : Nat) (C : Array Value) (fz : Nat × Nat) : Prop := ∀ i, i < C.size + pad sz → ¬ (fz.1 ≤ i ∧ i < fz.2)

inductive RO (c : Ctx) (w : World) : (Nat → Prop) → AV → Value → Prop where
  | plain {F : Nat → Prop} {x : AV} {v : Value} : x.isData = true → R c w x v → (∀ k, ¬ F k) → RO c w F x v
  | nil {F : Nat → Prop} {sz : Nat} : (∀ k, ¬ F k) → RO c w F (.row true sz []) (.slice none 0 0)
  | own {F : Nat → Prop} {sz : Nat} {es : List (List AV)} {cap : Nat} {A : Option Addr} (b : Nat) (C : Array Value) (e : TypeId) (fz : Nat × Nat) (G : Nat → Nat → Nat → Prop) :
      w.heap[b]? = some (.cells C e fz) → Unfz sz C fz → es.length ≤ cap → cap ≤ maxLen → C.size = cap * sz → (∀ e ∈ es, e.length = sz) →
      (∀ (i j : Nat) (x : AV) (v : Value), elt es i j = some x → C[i * sz + j]? = some v → v.oneCell' = true) →
      (∀ (i j : Nat) (x : AV) (v : Value), elt es i j = some x → C[i * sz + j]? = some v → RO c w (G i j) x v) →
      (∀ i j, ¬ G i j b) → (∀ i j i' j' k, G i j k → G i' j' k → i = i' ∧ j = j') → (∀ i j k, G i j k → (elt es i j).isSome = true) →
      (∀ k, F k ↔ k = b ∨ ∃ i j, G i j k) → (0 < cap → A = some ⟨b, 0, none⟩) → RO c w F (.row true sz es) (.slice A es.length cap)

def RowB (c : Ctx) (w : World) (p : Bool) (b cap sz : Nat) (es : List (List AV)) (F : Nat → Prop) : Prop :=
  ∃ (C : Array Value) (e : TypeId) (fz : Nat × Nat) (G : Nat → Nat → Nat → Prop),
      w.heap[b]? = some (.cells C e fz) ∧ Unfz sz C fz ∧ es.length ≤ cap ∧ cap ≤ maxLen ∧ C.size = cap * sz ∧ (∀ e ∈ es, e.length = sz) ∧
      (∀ (i j : Nat) (x : AV) (v : Value), elt es i j = some x → C[i * sz + j]? = some v → v.oneCell' = true) ∧
      (∀ (i j : Nat) (x : AV) (v : Value), elt es i j = some x → C[i * sz + j]? = some v → RO c w (G i j) x v ∨ (p = false ∧ (∀ k, ¬ G i j k) ∧ R c w x v ∧ x.isCell = false)) ∧
      (∀ i j, ¬ G i j b) ∧ (∀ i j i' j' k, G i j k → G i' j' k → i = i' ∧ j = j') ∧ (∀ i j k, G i j k → (elt es i j).isSome = true) ∧
      (∀ k, F k ↔ k = b ∨ ∃ i j, G i j k)

theorem RowB.own {c : Ctx} {w : World} {b cap sz : Nat} {es : List (List AV)} {F : Nat → Prop} (h : RowB c w true b cap sz es F) {A : Option Addr} (hA : 0 < cap → A = some ⟨b, 0, none⟩) : RO c w F (.row true sz es) (.slice A es.length cap) :=
  let ⟨C, e, fz, G, a1, a2, a3, a4, a5, a6, a7, a8, a9, a10, a11, a12⟩ := h
  .own b C e fz G a1 a2 a3 a4 a5 a6 a7 (fun i j x v hx hv => (a8 i j x v hx hv).resolve_right (by simp)) a9 a10 a11 a12 hA

theorem RO.inv {c : Ctx} {w : World} {F : Nat → Prop} {sz : Nat} {es : List (List AV)} {v : Value} (h : RO c w F (.row true sz es) v) :
    (es = [] ∧ v = .slice none 0 0 ∧ ∀ k, ¬ F k) ∨ ∃ b cap A, v = .slice A es.length cap ∧ (0 < cap → A = some ⟨b, 0, none⟩) ∧ RowB c w true b cap sz es F := by
  cases h with
  | plain h _ => simp [AV.isData] at h
  | nil h => exact .inl ⟨rfl, rfl, h⟩
  | own b C e fz G a1 a2 a3 a4 a5 a6 a7 a8 a9 a10 a11 a12 a13 => exact .inr ⟨b, _, _, rfl, a13, C, e, fz, G, a1, a2, a3, a4, a5, a6, a7, fun i j x v hx hv => .inl (a8 i j x v hx hv), a9, a10, a11, a12⟩

theorem RO.mono {c c' : Ctx} {w w' : World} (h1 : ∀ s i, c.at_ s = some i → c'.at_ s = some i) (h2 : ∀ b, c.I b → c'.I b) (h3 : ∀ b, c.I b → w'.heap[b]? = w.heap[b]?) {F : Nat → Prop} {x : AV} {v : Value} (h : RO c w F x v) :
    (∀ b, F b → w'.heap[b]? = w.heap[b]?) → RO c' w' F x v := by
  induction h with
  | plain a1 a2 a3 => exact fun _ => .plain a1 (a2.mono h1 h2 h3) a3
  | nil a => exact fun _ => .nil a
  | @own F sz es cap A b C e fz G a1 a2 a3 a4 a5 a6 a7 a8 a9 a10 a11 a12 a13 ih =>
    intro hF
    exact .own b C e fz G ((hF b ((a12 b).2 (.inl rfl))).trans a1) a2 a3 a4 a5 a6 a7 (fun i j x v hx hv => ih i j x v hx hv fun k hk => hF k ((a12 k).2 (.inr ⟨i, j, hk⟩))) a9 a10 a11 a12 a13

theorem RowB.mono {c c' : Ctx} {w w' : World} (h1 : ∀ s i, c.at_ s = some i → c'.at_ s = some i) (h2 : ∀ b, c.I b → c'.I b) (h3 : ∀ b, c.I b → w'.heap[b]? = w.heap[b]?) {p : Bool} {b cap sz : Nat} {es : List (List AV)} {F : Nat → Prop} (h : RowB c w p b cap sz es F)
    (hF : ∀ b, F b → w'.heap[b]? = w.heap[b]?) : RowB c' w' p b cap sz es F :=
  let ⟨C, e, fz, G, a1, a2, a3, a4, a5, a6, a7, a8, a9, a10, a11, a12⟩ := h
  ⟨C, e, fz, G, (hF b ((a12 b).2 (.inl rfl))).trans a1, a2, a3, a4, a5, a6, a7, fun i j x v hx hv => (a8 i j x v hx hv).imp (fun h => h.mono h1 h2 h3 fun k hk => hF k ((a12 k).2 (.inr ⟨i, j, hk⟩))) (fun h => ⟨h.1, h.2.1, h.2.2.1.mono h1 h2 h3, h.2.2.2⟩), a9, a10, a11, a12⟩

theorem elt_lt {es : List (List AV)} {sz : Nat} (h : ∀ e ∈ es, e.length = sz) {i j : Nat} {x : AV} (hx : elt es i j = some x) : i < es.length ∧ j < sz := by
  unfold elt at hx
  cases he : es[i]? with
  | none => simp [he] at hx
  | some e =>
    obtain ⟨hi, rfl⟩ := List.getElem?_eq_some_iff.1 he
    simp [he] at hx
    have := h _ (List.getElem_mem hi)
    exact ⟨hi, by have := (List.getElem?_eq_some_iff.1 hx).1; omega⟩

theorem fit_lt {n i j sz cap : Nat} (hi : i < n) (hj : j < sz) (hn : n ≤ cap) : i * sz + j < cap * sz := by
  have : (i + 1) * sz ≤ cap * sz := Nat.mul_le_mul_right _ (by omega)
  rw [Nat.add_mul] at this; omega

theorem RO.isCell {c : Ctx} {w : World} {F : Nat → Prop} {x : AV} {v : Value} (h : RO c w F x v) : x.isCell = true := by
  cases h with
  | plain a => cases x <;> simp_all [AV.isData, AV.isCell]
  | nil => rfl
  | own => rfl

theorem RO.read {c : Ctx} {w : World} {F : Nat → Prop} {x : AV} {v : Value} (h : RO c w F x v) : (∀ k, F k → c.I k) → R c w x v := by
  induction h with
  | plain a1 a2 a3 => exact fun _ => a2
  | nil a => exact fun _ => .row 0 0 (fun _ _ => default) (Nat.le_refl _) (by simp [maxLen]) (by simp) (by simp) (by simp [elt]) (by simp [elt]) (by simp [elt]) (by simp [elt])
  | @own F sz es cap A b C e fz G a1 a2 a3 a4 a5 a6 a7 a8 a9 a10 a11 a12 a13 ih =>
    intro hF
    have hc : ∀ i j x, elt es i j = some x → ∃ v, C[i * sz + j]? = some v := fun i j x hx => by
      obtain ⟨hi, hj⟩ := elt_lt a6 hx
      have := fit_lt hi hj a3
      exact ⟨C[i * sz + j]'(by omega), by simp⟩
    refine .row b 0 (fun i j => (C[i * sz + j]?).getD default) a3 a4 (fun h => ⟨a13 (by omega), hF b ((a12 b).2 (.inl rfl))⟩) a6 (fun i j x hx => ?_) (fun i j x hx => ?_) (fun i j x hx => ?_) (fun i j x hx => ?_)
    · obtain ⟨v, hv⟩ := hc i j x hx
      exact (a8 i j x v hx hv).isCell
    · obtain ⟨v, hv⟩ := hc i j x hx
      simp only [World.cell?, a1, Option.isSome_none, Bool.false_eq_true, if_false, Nat.zero_add, hv, Option.getD_some]
    · obtain ⟨v, hv⟩ := hc i j x hx
      simp only [hv, Option.getD_some]
      exact a7 i j x v hx hv
    · obtain ⟨v, hv⟩ := hc i j x hx
      simp only [hv, Option.getD_some]
      exact ih i j x v hx hv fun k hk => hF k ((a12 k).2 (.inr ⟨i, j, hk⟩))

def RL (c : Ctx) (w : World) : List AV → List Value → Prop
  | [], [] => True
  | x :: xs, v :: vs => (R c w x v ∧ v.oneCell' = true) ∧ RL c w xs vs
  | _, _ => False

def RTs (c : Ctx) (w : World) : List (Bool × List AV) → List Value → Prop
  | [], [] => True
  | (false, [x]) :: xs, v :: vs => (R c w x v ∧ v.oneCell' = true) ∧ RTs c w xs vs
  | (true, ys) :: xs, .agg us :: vs => RL c w ys us.toList ∧ RTs c w xs vs
  | _, _ => False

def RT (c : Ctx) (w : World) : T → Value → Prop
  | .dead, _ => True
  | .one x, v => R c w x v ∧ v.oneCell' = true
  | .agg xs, .agg vs => RL c w xs vs.toList
  | .tup ts, .tuple vs => RTs c w ts vs.toList
  | _, _ => False

section
variable {c c' : Ctx} {w w' : World} (h1 : ∀ s i, c.at_ s = some i → c'.at_ s = some i) (h2 : ∀ b, c.I b → c'.I b) (h3 : ∀ b, c.I b → w'.heap[b]? = w.heap[b]?)
include h1 h2 h3
theorem RL.mono : ∀ {xs : List AV} {vs : List Value}, RL c w xs vs → RL c' w' xs vs
  | [], [], _ => trivial
  | _ :: _, _ :: _, h => ⟨⟨h.1.1.mono h1 h2 h3, h.1.2⟩, RL.mono h.2⟩
theorem RTs.mono : ∀ {xs : List (Bool × List AV)} {vs : List Value}, RTs c w xs vs → RTs c' w' xs vs
  | [], [], _ => trivial
  | (false, [x]) :: _, _ :: _, h => ⟨⟨h.1.1.mono h1 h2 h3, h.1.2⟩, RTs.mono h.2⟩
  | (true, _) :: _, .agg _ :: _, h => ⟨RL.mono h1 h2 h3 h.1, RTs.mono h.2⟩
theorem RT.mono {t : T} {v : Value} (h : RT c w t v) : RT c' w' t v := by
  cases t with
  | dead => exact trivial
  | one x => exact ⟨h.1.mono h1 h2 h3, h.2⟩
  | agg xs => cases v <;> first | exact h.elim | exact RL.mono h1 h2 h3 h
  | tup ts => cases v <;> first | exact h.elim | exact RTs.mono h1 h2 h3 h
end

theorem RL.length : ∀ {c : Ctx} {w : World} {xs : List AV} {vs : List Value}, RL c w xs vs → xs.length = vs.length
  | _, _, [], [], _ => rfl
  | _, _, _ :: _, _ :: _, h => by simp [RL.length h.2]
theorem RL.at : ∀ {c : Ctx} {w : World} {xs : List AV} {vs : List Value}, RL c w xs vs → ∀ {i : Nat} {x : AV} {v : Value}, xs[i]? = some x → vs[i]? = some v → R c w x v ∧ v.oneCell' = true
  | _, _, [], [], _, i, x, v, hx, _ => by simp at hx
  | _, _, _ :: _, _ :: _, h, 0, x, v, hx, hv => by simp at hx hv; subst hx hv; exact h.1
  | _, _, _ :: _, _ :: _, h, i + 1, x, v, hx, hv => RL.at h.2 (by simpa using hx) (by simpa using hv)
theorem RL.of : ∀ {c : Ctx} {w : World} {xs : List AV} {vs : List Value}, xs.length = vs.length → (∀ (i : Nat) (x : AV) (v : Value), xs[i]? = some x → vs[i]? = some v → R c w x v ∧ v.oneCell' = true) → RL c w xs vs
  | _, _, [], [], _, _ => trivial
  | _, _, x :: xs, v :: vs, hl, h => ⟨h 0 x v rfl rfl, RL.of (by simpa using hl) fun i y u hy hu => h (i + 1) y u (by simpa using hy) (by simpa using hu)⟩
theorem RL.map_bor {c : Ctx} {w : World} {xs : List AV} {vs : List Value} (h : RL c w xs vs) : RL c w (xs.map AV.bor) vs := by
  refine RL.of (by simpa using h.length) fun i x v hx hv => ?_
  rw [List.getElem?_map] at hx
  cases hy : xs[i]? with
  | none => simp [hy] at hx
  | some y => simp [hy] at hx; subst hx; exact ⟨(h.at hy hv).1.bor, (h.at hy hv).2⟩
theorem RL.drop {c : Ctx} {w : World} {xs : List AV} {vs : List Value} (h : RL c w xs vs) (n : Nat) : RL c w (xs.drop n) (vs.drop n) :=
  RL.of (by simp [h.length]) fun i x v hx hv => h.at (i := n + i) (by simpa using hx) (by simpa using hv)
theorem RL.take {c : Ctx} {w : World} {xs : List AV} {vs : List Value} (h : RL c w xs vs) (n : Nat) : RL c w (xs.take n) (vs.take n) :=
  RL.of (by simp [h.length]) fun i x v hx hv => by
    rw [List.getElem?_take] at hx hv
    split at hx
    · rename_i hi; rw [if_pos hi] at hv; exact h.at hx hv
    · cases hx

inductive Blk where
  | var (xs : List AV)
  | row (p : Bool) (sz : Nat) (es : List (List AV))
  | par (v : Value) (x : AV)
  | pin (s : Nat) (i : SI)
  | mapb (b : Nat) (es : List (ByteArray × Value))
def Blk.isPar : Blk → Bool
  | .par _ _ => true
  | .pin _ _ => true
  | .mapb _ _ => true
  | _ => false
def Blk.isArg : Blk → Bool
  | .par _ _ => true
  | .pin _ _ => true
  | _ => false
def vOk : Value → Bool
  | .agg cs => cs.toList.all (·.oneCell')
  | v => v.oneCell'

structure AS where
  tm : Nat → T
  mem : Nat → Option Blk

def Ctx.top (c : Ctx) (s b : Nat) : Prop := c.at_ s = some (.var b) ∨ ∃ cap sz, c.at_ s = some (.row b cap sz)

def BlkOk (c : Ctx) (w : World) (F : Nat → Prop) (s : Nat) : Blk → Prop
  | .var xs => ∃ b C e fz, c.at_ s = some (.var b) ∧ w.heap[b]? = some (.cells C e fz) ∧ Unfz 1 C fz ∧ RL c w xs C.toList ∧ ∀ k, F k ↔ k = b
  | .row p sz es => (c.at_ s = some .nil ∧ es = [] ∧ ∀ k, ¬ F k) ∨ ∃ b cap, c.at_ s = some (.row b cap sz) ∧ RowB c w p b cap sz es F
  | .par v x => c.at_ s = some .nil ∧ ∀ k, ¬ F k
  | .pin s' i => c.at_ s = some .nil ∧ (∀ k, ¬ F k) ∧ c.at_ s' = some i
  | .mapb b es => c.at_ s = some (.var b) ∧ (∃ (ents : Array MapEntry) (ck : Nat), w.heap[b]? = some (.map ents ck) ∧ ents.toList.map (fun e => (e.key, e.val)) = (es.map fun p => (Value.string p.1, p.2)) ∧ (es.all fun p => vOk p.2) = true) ∧ ∀ k, F k ↔ k = b

structure Keeps (L : Nat → Prop) (w w' : World) : Prop where
  os : w'.os = w.os
  tape : w'.tape = w.tape
  output : w'.output = w.output
  size : w.heap.size ≤ w'.heap.size
  block : ∀ k, k < w.heap.size → ¬ L k → w'.heap[k]? = w.heap[k]?
  dr : DR = true → w.drawn ≤ w'.drawn
structure Bel (B : Nat) (w w' : World) : Prop where
  os : w'.os = w.os
  tape : w'.tape = w.tape
  output : w'.output = w.output
  size : w.heap.size ≤ w'.heap.size
  block : ∀ k, k < B → w'.heap[k]? = w.heap[k]?
  dr : DR = true → w.drawn ≤ w'.drawn
theorem Bel.below {B : Nat} {w w' : World} (h : Bel B w w') : Below B w w' := ⟨h.os, h.tape, h.output, h.size, h.block⟩
theorem Bel.refl (B : Nat) (w : World) : Bel B w w := ⟨rfl, rfl, rfl, Nat.le_refl _, fun _ _ => rfl, fun _ => Nat.le_refl _⟩
theorem Bel.drew {B : Nat} {a w : World} (h : Bel B a w) : Bel B a w.drew := ⟨h.os, h.tape, h.output, h.size, h.block, fun q => Nat.le_succ_of_le (h.dr q)⟩
theorem Bel.alloc {B : Nat} {a w : World} (h : Bel B a w) (hB : B ≤ w.heap.size) (o : Obj) : Bel B a (w.alloc o) :=
  let k := h.below.alloc hB o
  ⟨k.os, k.tape, k.output, k.size, k.block, h.dr⟩
theorem Bel.trans {B : Nat} {a b c : World} (h : Bel B a b) (k : Bel B b c) : Bel B a c :=
  ⟨k.os.trans h.os, k.tape.trans h.tape, k.output.trans h.output, Nat.le_trans h.size k.size, fun i hi => (k.block i hi).trans (h.block i hi), fun q => Nat.le_trans (h.dr q) (k.dr q)⟩

def oldB (w0 : World) (L : Nat → Prop) : Nat → Prop := fun k => k < w0.heap.size ∧ ¬ L k
def GlW (w : World) (I : Nat → Prop) : Prop := (∀ g xs, GV g = some xs → I g ∧ g < w.heap.size ∧ ∀ (j : Nat) (v : Value), xs[j]? = some v → w.cell? ⟨g, j, none⟩ = some v ∧ v.oneCell' = true) ∧ GX w I
theorem GlW.mono {w w' : World} {I I' : Nat → Prop} (h : GlW w I) (hI : ∀ b, I b → I' b) (hs : w.heap.size ≤ w'.heap.size) (hw : ∀ b, I b → w'.heap[b]? = w.heap[b]?) : GlW w' I' := ⟨fun g xs hg =>
  let ⟨h1, h2, h3⟩ := h.1 g xs hg
  ⟨hI g h1, Nat.lt_of_lt_of_le h2 hs, fun j v hj => by rw [cell?_same (hw g h1)]; exact h3 j v hj⟩, h.2.mono hI hs hw⟩
structure H (w0 : World) (L : Nat → Prop) (n : Nat) (σ : AS) (a : Act) (w : World) (c : Ctx) (F : Nat → Nat → Prop) : Prop where
  keeps : Keeps L w0 w
  size : a.tmps.size = n
  defers : a.defers = []
  tm : ∀ t, RT c w (σ.tm t) (a.tmps.getD t undef)
  mem : ∀ s k, σ.mem s = some k → BlkOk c w (F s) s k
  dom : ∀ s, σ.mem s = none → c.at_ s = none ∧ ∀ k, ¬ F s k
  disj : ∀ s s' k, F s k → F s' k → s = s'
  new : ∀ s k, F s k → (w0.heap.size ≤ k ∨ L k) ∧ k < w.heap.size
  imm : ∀ k, c.I k → k < w.heap.size
  inn : ∀ s k, F s k → (c.I k ↔ ¬ c.top s k)
  par : ∀ s v x, σ.mem s = some (.par v x) → x.isFree = true ∧ R ⟨fun _ => none, oldB w0 L⟩ w0 x v ∧ ∀ k, oldB w0 L k → c.I k
  gl : GlW w0 (oldB w0 L)

def Holds (w0 : World) (L : Nat → Prop) (n : Nat) (σ : AS) (a : Act) (w : World) : Prop := ∃ c F, H w0 L n σ a w c F
end Go.Proofs.YtjajnladldchcaaDoor
namespace Go.Proofs.YtjajnladldchcaaDoor
open Go.RowKit
set_option linter.unusedSimpArgs false
set_option linter.unusedVariables false

def AS.put (σ : AS) (d : Option Nat) (t : T) : AS :=
  match d with
  | some d => { σ with tm := fun k => if k = d then t else σ.tm k }
  | none => σ
def AS.add (σ : AS) (s : Nat) (k : Blk) : AS := { σ with mem := fun s' => if s' = s then some k else σ.mem s' }
def AS.adds (σ : AS) : List (Nat × Blk) → AS
  | [] => σ
  | (s, k) :: l => (σ.add s k).adds l

def T.ofConst : Value → T
  | .agg cs => if cs.toList.all (·.oneCell') then .agg (cs.toList.map .lit) else .dead
  | .tuple _ => .dead
  | v => .one (.lit v)
def AS.get (σ : AS) : Operand → T
  | .tmp t => σ.tm t
  | .const v => .ofConst v
  | .func f => .one (.fn f [])
  | .global g => .one (.lit (.pointer (some ⟨g, 0, none⟩)))

theorem RL.lits (c : Ctx) (w : World) : ∀ (vs : List Value), vs.all (·.oneCell') = true → RL c w (vs.map .lit) vs
  | [], _ => trivial
  | v :: vs, h => by
    simp only [List.all_cons, Bool.and_eq_true] at h
    exact ⟨⟨.lit v, h.1⟩, RL.lits c w vs h.2⟩

theorem RT.const (c : Ctx) (w : World) (v : Value) : RT c w (.ofConst v) v := by
  unfold T.ofConst
  split
  · rename_i cs
    split
    · rename_i h; exact RL.lits c w _ h
    · trivial
  · trivial
  · rename_i h1 h2
    refine ⟨.lit v, ?_⟩
    cases v <;> first | rfl | exact absurd rfl (h1 _) | exact absurd rfl (h2 _)

section
variable {w0 w : World} {L : Nat → Prop} {n : Nat} {σ : AS} {a : Act} {c : Ctx} {F : Nat → Nat → Prop}

theorem H.get (h : H w0 L n σ a w c F) (x : Operand) : RT c w (σ.get x) (a.eval x) := by
  cases x with
  | tmp t => exact h.tm t
  | const v => exact RT.const c w v
  | global g => exact ⟨.lit _, rfl⟩
  | func f => exact ⟨.fn (by simp) (by simp) (by simp), rfl⟩

theorem Keeps.refl (L : Nat → Prop) (w : World) : Keeps L w w := ⟨rfl, rfl, rfl, Nat.le_refl _, fun _ _ _ => rfl, fun _ => Nat.le_refl _⟩

theorem H.put (h : H w0 L n σ a w c F) {d : Option Nat} (hd : ∀ k, d = some k → k < n) {t : T} {v : Value} (ht : RT c w t v) : H w0 L n (σ.put d t) (a.put d v) w c F := by
  cases d with
  | none => exact h
  | some d =>
    have hd := hd d rfl
    refine ⟨h.keeps, by simp [Act.put, h.size], h.defers, fun k => ?_, h.mem, h.dom, h.disj, h.new, h.imm, h.inn, h.par, h.gl⟩
    simp only [AS.put, Act.put]
    by_cases hk : k = d
    · subst hk
      have hs := h.size
      simp [hs, hd, ht]
    · rw [if_neg hk]
      have h3 : (a.tmps.setIfInBounds d v)[k]? = a.tmps[k]? := by rw [Array.getElem?_setIfInBounds_ne (fun e => hk e.symm)]
      have : (a.tmps.setIfInBounds d v).getD k undef = a.tmps.getD k undef := by simp only [Array.getD_eq_getD_getElem?, h3]
      rw [this]; exact h.tm k

theorem Keeps.step {w' : World} (h : Keeps L w0 w) (ho : w'.os = w.os) (ht : w'.tape = w.tape) (hp : w'.output = w.output) (hs : w.heap.size ≤ w'.heap.size)
    (hb : ∀ k, k < w0.heap.size → ¬ L k → w'.heap[k]? = w.heap[k]?) (hd : DR = true → w.drawn ≤ w'.drawn) : Keeps L w0 w' :=
  ⟨ho.trans h.os, ht.trans h.tape, hp.trans h.output, Nat.le_trans h.size hs, fun k hk hl => (hb k hk hl).trans (h.block k hk hl), fun q => Nat.le_trans (h.dr q) (hd q)⟩

theorem BlkOk.mono {c' : Ctx} {w' : World} {F : Nat → Prop} {s : Nat} {k : Blk} (h1 : ∀ s i, c.at_ s = some i → c'.at_ s = some i) (h2 : ∀ b, c.I b → c'.I b) (h3 : ∀ b, c.I b → w'.heap[b]? = w.heap[b]?)
    (hF : ∀ b, F b → w'.heap[b]? = w.heap[b]?) (h : BlkOk c w F s k) : BlkOk c' w' F s k := by
  cases k with
  | var xs =>
    obtain ⟨b, C, e, fz, a1, a2, a3, a4, a5⟩ := h
    exact ⟨b, C, e, fz, h1 _ _ a1, (hF b ((a5 b).2 rfl)).trans a2, a3, a4.mono h1 h2 h3, a5⟩
  | row p sz es =>
    rcases h with ⟨a1, a2, a3⟩ | ⟨b, cap, a1, a2⟩
    · exact .inl ⟨h1 _ _ a1, a2, a3⟩
    · exact .inr ⟨b, cap, h1 _ _ a1, a2.mono h1 h2 h3 hF⟩
  | par v x =>
    exact ⟨h1 _ _ h.1, h.2⟩
  | pin s' i =>
    obtain ⟨a1, a2, a3⟩ := h
    exact ⟨h1 _ _ a1, a2, h1 _ _ a3⟩
  | mapb b es =>
    obtain ⟨a1, ⟨ents, ck, a2, a3⟩, a4⟩ := h
    exact ⟨h1 _ _ a1, ⟨ents, ck, (hF b ((a4 b).2 rfl)).trans a2, a3⟩, a4⟩

def Sup (σ : AS) (m : Nat → Option Blk) : Prop := (∀ s k, m s = some k → σ.mem s = none ∨ σ.mem s = some k) ∧ ∀ s k, k.isPar = true → m s = some k → σ.mem s = some k
theorem Sup.refl (σ : AS) : Sup σ σ.mem := ⟨fun _ _ h => .inr h, fun _ _ _ h => h⟩
def Le (m m' : Nat → Option Blk) : Prop := (∀ s k, m s = some k → m' s = some k) ∧ ∀ s k, k.isPar = true → m' s = some k → m s = some k
theorem Le.refl (m : Nat → Option Blk) : Le m m := ⟨fun _ _ h => h, fun _ _ _ h => h⟩
theorem H.look (h : H w0 L n σ a w c F) {m : Nat → Option Blk} (hm : Sup σ m) {s : Nat} {i : SI} {k : Blk} (hs : c.at_ s = some i) (hk : m s = some k) : σ.mem s = some k :=
  (hm.1 s k hk).resolve_left fun e => by have := (h.dom s e).1; rw [hs] at this; cases this

theorem H.world {w' : World} (h : H w0 L n σ a w c F) (hb : Bel w.heap.size w w') : H w0 L n σ a w' c F := by
  have h3 : ∀ b, c.I b → w'.heap[b]? = w.heap[b]? := fun b hI => hb.block b (h.imm b hI)
  have h4 : ∀ s b, F s b → w'.heap[b]? = w.heap[b]? := fun s b hF => hb.block b (h.new s b hF).2
  exact ⟨h.keeps.step hb.os hb.tape hb.output hb.size (fun k hk _ => hb.block k (Nat.lt_of_lt_of_le hk h.keeps.size)) hb.dr, h.size, h.defers, fun t => (h.tm t).mono (fun _ _ h => h) (fun _ h => h) h3,
    fun s k hk => (h.mem s k hk).mono (fun _ _ h => h) (fun _ h => h) h3 (h4 s), h.dom, h.disj, fun s k hk => ⟨(h.new s k hk).1, Nat.lt_of_lt_of_le (h.new s k hk).2 hb.size⟩,
    fun k hk => Nat.lt_of_lt_of_le (h.imm k hk) hb.size, h.inn, h.par, h.gl⟩

theorem H.old_not (h : H w0 L n σ a w c F) {k s : Nat} (hk : oldB w0 L k) (hF : F s k) : False := by
  rcases (h.new s k hF).1 with h1 | h1
  · have := hk.1; omega
  · exact hk.2 h1

def Ctx.add (c : Ctx) (s : Nat) (i : SI) (J : Nat → Prop) : Ctx := ⟨fun s' => if s' = s then some i else c.at_ s', fun k => c.I k ∨ J k⟩
def SI.isTop : SI → Nat → Prop
  | .var b, k => k = b
  | .row b _ _, k => k = b
  | .nil, _ => False

theorem Ctx.top_add_self (c : Ctx) (s : Nat) (i : SI) (J : Nat → Prop) (k : Nat) : (c.add s i J).top s k ↔ i.isTop k := by
  cases i <;> simp [Ctx.top, Ctx.add, SI.isTop] <;> exact ⟨fun h => h.symm, fun h => h.symm⟩
theorem Ctx.top_add_ne (c : Ctx) {s s' : Nat} (hs : s' ≠ s) (i : SI) (J : Nat → Prop) (k : Nat) : (c.add s i J).top s' k ↔ c.top s' k := by
  simp [Ctx.top, Ctx.add, hs]

theorem Ctx.add_ext {c : Ctx} {s : Nat} (h : c.at_ s = none) (i : SI) (J : Nat → Prop) : (∀ s' i', c.at_ s' = some i' → (c.add s i J).at_ s' = some i') ∧ ∀ b, c.I b → (c.add s i J).I b :=
  ⟨fun s' i' h' => by
    have : s' ≠ s := fun e => by subst e; rw [h] at h'; cases h'
    simp [Ctx.add, this, h'], fun b hb => .inl hb⟩

theorem H.addSite {w' : World} (h : H w0 L n σ a w c F) (hb : Bel w.heap.size w w') {s : Nat} {k : Blk} (hs : σ.mem s = none) {i : SI} {G : Nat → Prop}
    (hG : ∀ b, G b → w.heap.size ≤ b ∧ b < w'.heap.size) (hk : BlkOk (c.add s i (fun b => G b ∧ ¬ i.isTop b)) w' G s k) (hkp : k.isArg = false := by rfl) :
    H w0 L n (σ.add s k) a w' (c.add s i (fun b => G b ∧ ¬ i.isTop b)) (fun s' b => (s' = s ∧ G b) ∨ F s' b) := by
  have h' := h.world hb
  have hd := h.dom s hs
  obtain ⟨e1, e2⟩ := Ctx.add_ext hd.1 i (fun b => G b ∧ ¬ i.isTop b)
  have hF : (fun b => (s = s ∧ G b) ∨ F s b) = G := by funext b; simp [hd.2 b]
  have hns : ∀ s' b, s' ≠ s → ((s' = s ∧ G b) ∨ F s' b ↔ F s' b) := fun s' b hn => by simp [hn]
  refine ⟨h'.keeps, h'.size, h'.defers, fun t => (h'.tm t).mono e1 e2 (fun _ _ => rfl), fun s' k' hk' => ?_, fun s' hs' => ?_, fun s1 s2 b h1 h2 => ?_, fun s' b hb' => ?_, fun b hb' => ?_, fun s' b hb' => ?_, fun s' v x hs' => by
    by_cases e : s' = s
    · subst e; simp [AS.add] at hs'; subst hs'; cases hkp
    · simp [AS.add, e] at hs'; obtain ⟨q1, q2, q3⟩ := h.par s' v x hs'; exact ⟨q1, q2, fun k hk => .inl (q3 k hk)⟩, h.gl⟩
  · by_cases e : s' = s
    · subst e
      simp [AS.add] at hk'
      subst hk'
      rw [hF]; exact hk
    · simp [AS.add, e] at hk'
      have := (h'.mem s' k' hk').mono e1 e2 (fun _ _ => rfl) (fun _ _ => rfl)
      rw [show (fun b => (s' = s ∧ G b) ∨ F s' b) = F s' from funext fun b => propext (hns s' b e)]
      exact this
  · have e : s' ≠ s := fun e => by subst e; simp [AS.add] at hs'
    simp [AS.add, e] at hs'
    have := h'.dom s' hs'
    exact ⟨by simp [Ctx.add, e, this.1], fun b => by rw [hns s' b e]; exact this.2 b⟩
  · rcases h1 with ⟨rfl, h1⟩ | h1 <;> rcases h2 with ⟨rfl, h2⟩ | h2
    · rfl
    · exact absurd (h.new _ _ h2).2 (by have := (hG b h1).1; omega)
    · exact absurd (h.new _ _ h1).2 (by have := (hG b h2).1; omega)
    · exact h.disj _ _ _ h1 h2
  · rcases hb' with ⟨rfl, h1⟩ | h1
    · exact ⟨.inl (Nat.le_trans h.keeps.size (hG b h1).1), (hG b h1).2⟩
    · exact h'.new _ _ h1
  · rcases hb' with h1 | h1
    · exact h'.imm _ h1
    · exact (hG b h1.1).2
  · by_cases e : s' = s
    · subst e
      have hg : G b := by rcases hb' with h1 | h1; exact h1.2; exact absurd h1 (hd.2 b)
      rw [Ctx.top_add_self]
      constructor
      · rintro (h1 | h1)
        · exact absurd (h.imm b h1) (by have := (hG b hg).1; omega)
        · exact h1.2
      · exact fun h1 => .inr ⟨hg, h1⟩
    · rw [Ctx.top_add_ne c e]
      have h1 : F s' b := (hns s' b e).1 hb'
      rw [← h.inn s' b h1]
      constructor
      · rintro (h2 | h2)
        · exact h2
        · exact absurd (h.new s' b h1).2 (by have := (hG b h2.1).1; omega)
      · exact .inl

theorem H.newVar (h : H w0 L n σ a w c F) {s : Nat} (hs : σ.mem s = none) {xs : List AV} {C : Array Value} {e : TypeId} (hC : RL c w xs C.toList) :
    ∃ c' F', H w0 L n (σ.add s (.var xs)) a (w.alloc (.cells C e)) c' F' ∧ c'.at_ s = some (.var w.heap.size) := by
  have hb : Bel w.heap.size w (w.alloc (.cells C e)) := (Bel.refl _ _).alloc (Nat.le_refl _) _
  have hd := h.dom s hs
  refine ⟨_, _, h.addSite (i := .var w.heap.size) (G := fun b => b = w.heap.size) hb hs (fun b hb => by subst hb; simp) ?_, by simp [Ctx.add]⟩
  obtain ⟨e1, e2⟩ := Ctx.add_ext hd.1 (.var w.heap.size) (fun b => (fun b => b = w.heap.size) b ∧ ¬ (SI.var w.heap.size).isTop b)
  refine ⟨w.heap.size, C, e, (0, 0), by simp [Ctx.add], heap_alloc_new w _, fun i _ => by simp, hC.mono e1 e2 (fun b hI => ?_), fun k => Iff.rfl⟩
  exact hb.block b (h.imm b hI)

theorem H.varCell (h : H w0 L n σ a w c F) {s : Nat} {xs : List AV} (hs : σ.mem s = some (.var xs)) :
    ∃ b C e fz, c.at_ s = some (.var b) ∧ w.heap[b]? = some (.cells C e fz) ∧ Unfz 1 C fz ∧ RL c w xs C.toList ∧ F s b := by
  obtain ⟨b, C, e, fz, a1, a2, a3, a4, a5⟩ := h.mem s _ hs
  exact ⟨b, C, e, fz, a1, a2, a3, a4, (a5 b).2 rfl⟩
end
end Go.Proofs.YtjajnladldchcaaDoor
namespace Go.Proofs.YtjajnladldchcaaDoor
open Go.RowKit
set_option linter.unusedSimpArgs false
set_option linter.unusedVariables false

def aggD : TypeDesc → Bool
  | .struct _ | .array _ _ => true
  | _ => false
def tyI (P : Program) (t : TypeId) : Option (Nat × Bool) :=
  match P.info? t, P.underlying t with
  | some i, some d => if aggD d || i.size == 1 then some (i.size, aggD d) else none
  | _, _ => none
def fldI (P : Program) (s : TypeId) (f : Nat) : Option (Nat × Nat × Bool) :=
  match P.underlying s with
  | some (.struct fs) => match fs[f]? with
    | some f => match tyI P f.type with
      | some (sz, g) => if sz = 0 then none else some (f.offset, sz, g)
      | none => none
    | none => none
  | _ => none
def elI (P : Program) (t : TypeId) : Option (TypeId × Nat × Nat) :=
  match P.underlying t with
  | some (.slice e) => match P.info? e with
    | some i => if i.size = 0 then none else some (e, i.size, i.bytes)
    | none => none
  | _ => none
def zrI (P : Program) (t : TypeId) : Option (List Value) :=
  match P.info? t with
  | some i => match i.zero with
    | some z => if z.cells.toList.all (·.oneCell') then some z.cells.toList else none
    | none => none
  | none => none
inductive TyKd where
  | int (k : IntKind) | str | bool | sl | struct (n : Nat) | arr (n : Nat) (e : TypeId) | other
structure TyRow where
  ty : Option (Nat × Bool)
  fld : List (Option (Nat × Nat × Bool))
  el : Option (TypeId × Nat × Nat)
  zr : Option (List Value)
  kd : TyKd
def kdOf : Option TypeDesc → Option TyKd
  | some (.int k) => some (.int k)
  | some .string => some .str
  | some .bool => some .bool
  | some (.slice _) => some .sl
  | some (.struct fs) => some (.struct fs.size)
  | some (.array n e) => some (.arr n e)
  | some _ => some .other
  | none => none
def nfOf : Option TyKd → Nat
  | some (.struct n) => n
  | _ => 0
def rowOf (P : Program) (t : TypeId) : Option TyRow :=
  match kdOf (P.underlying t) with
  | some k => some ⟨tyI P t, (List.range (nfOf (some k))).map (fldI P t), elI P t, zrI P t, k⟩
  | none => none

inductive OT where
  | seq (ds : List Nat)
  | take (i : Nat) (t : OT)
  | alt (i : Nat) (t rest : OT)
  | none
inductive Tab where
  | nil
  | node (t : Nat) (r : TyRow) (a b : Tab)
  | marks (l own : List Nat) (ord : List (Nat × OT)) (a : Tab)
def Tab.get : Tab → Nat → Option TyRow
  | .nil, _ => none
  | .node t r a b, k => if k = t then some r else if k < t then a.get k else b.get k
  | .marks _ _ _ a, k => a.get k
def Tab.wr : Tab → List Nat
  | .marks l _ _ _ => l
  | _ => []
def Tab.own : Tab → List Nat
  | .marks _ l _ _ => l
  | _ => []
def Tab.ord : Tab → List (Nat × OT)
  | .marks _ _ b _ => b
  | _ => []
def Tab.ok (P : Program) : Tab → Prop
  | .nil => True
  | .node t r a b => rowOf P t = some r ∧ a.ok P ∧ b.ok P
  | .marks _ _ _ a => a.ok P
theorem Tab.get_ok {P : Program} : ∀ {E : Tab}, E.ok P → ∀ {t : Nat} {r : TyRow}, E.get t = some r → rowOf P t = some r
  | .nil, _, t, r, h => by simp [Tab.get] at h
  | .node k q a b, hE, t, r, h => by
    simp only [Tab.get] at h
    split at h
    · rename_i e; subst e; cases h; exact hE.1
    · split at h
      · exact Tab.get_ok hE.2.1 h
      · exact Tab.get_ok hE.2.2 h
  | .marks _ _ _ a, hE, t, r, h => Tab.get_ok (E := a) hE h

def Tab.ty (E : Tab) (t : TypeId) : Option (Nat × Bool) := match E.get t with | some r => r.ty | none => none
def Tab.fld (E : Tab) (t : TypeId) (f : Nat) : Option (Nat × Nat × Bool) := match E.get t with | some r => (match r.fld[f]? with | some x => x | none => none) | none => none
def Tab.el (E : Tab) (t : TypeId) : Option (TypeId × Nat × Nat) := match E.get t with | some r => r.el | none => none
def Tab.zr (E : Tab) (t : TypeId) : Option (List Value) := match E.get t with | some r => r.zr | none => none
def Tab.kd (E : Tab) (t : TypeId) : Option TyKd := match E.get t with | some r => some r.kd | none => none

section
variable {P : Program} {E : Tab} (hE : E.ok P)
include hE
theorem Tab.row {t : TypeId} {r : TyRow} (h : E.get t = some r) : tyI P t = r.ty ∧ (∀ f : Nat, f < r.fld.length → r.fld[f]? = some (fldI P t f)) ∧ elI P t = r.el ∧ zrI P t = r.zr ∧ kdOf (P.underlying t) = some r.kd ∧ r.fld.length = nfOf (some r.kd) := by
  have := Tab.get_ok hE h
  unfold rowOf at this
  split at this
  · rename_i k hk
    cases this
    exact ⟨rfl, fun f hf => by simp at hf; simp [hf], rfl, rfl, hk, by simp⟩
  · cases this
theorem Tab.ty_ok {t : TypeId} {x : Nat × Bool} (h : E.ty t = some x) : tyI P t = some x := by
  unfold Tab.ty at h
  split at h
  · rename_i r hr; rw [(Tab.row hE hr).1]; exact h
  · cases h
theorem Tab.fld_ok {t : TypeId} {f : Nat} {x : Nat × Nat × Bool} (h : E.fld t f = some x) : fldI P t f = some x := by
  unfold Tab.fld at h
  split at h
  · rename_i r hr
    split at h
    · rename_i y hy
      have := (Tab.row hE hr).2.1 f (List.getElem?_eq_some_iff.1 hy).1
      rw [hy] at this
      cases this; exact h
    · cases h
  · cases h
theorem Tab.el_ok {t : TypeId} {x : TypeId × Nat × Nat} (h : E.el t = some x) : elI P t = some x := by
  unfold Tab.el at h
  split at h
  · rename_i r hr; rw [(Tab.row hE hr).2.2.1]; exact h
  · cases h
theorem Tab.zr_ok {t : TypeId} {x : List Value} (h : E.zr t = some x) : zrI P t = some x := by
  unfold Tab.zr at h
  split at h
  · rename_i r hr; rw [(Tab.row hE hr).2.2.2.1]; exact h
  · cases h
theorem Tab.kd_ok {t : TypeId} {x : TyKd} (h : E.kd t = some x) : kdOf (P.underlying t) = some x := by
  unfold Tab.kd at h
  split at h
  · rename_i r hr; rw [(Tab.row hE hr).2.2.2.2.1]; exact h
  · cases h
theorem Tab.str_ok {t : TypeId} (h : E.kd t = some .str) : P.underlying t = some .string := by
  have := Tab.kd_ok hE h
  unfold kdOf at this
  split at this <;> first | assumption | cases this
theorem Tab.int_ok {t : TypeId} {k : IntKind} (h : E.kd t = some (.int k)) : P.underlying t = some (.int k) := by
  have := Tab.kd_ok hE h
  unfold kdOf at this
  split at this <;> first | (cases this; assumption) | cases this
theorem Tab.bool_ok {t : TypeId} (h : E.kd t = some .bool) : P.underlying t = some .bool := by
  have := Tab.kd_ok hE h
  unfold kdOf at this
  split at this <;> first | assumption | cases this
theorem Tab.sl_ok {t : TypeId} (h : E.kd t = some .sl) : ∃ e, P.underlying t = some (.slice e) := by
  have := Tab.kd_ok hE h
  unfold kdOf at this
  split at this <;> first | exact ⟨_, by assumption⟩ | cases this
theorem Tab.struct_ok {t n : Nat} (h : E.kd t = some (.struct n)) : ∃ fs, P.underlying t = some (.struct fs) ∧ fs.size = n := by
  have := Tab.kd_ok hE h
  unfold kdOf at this
  split at this <;> first | (cases this; exact ⟨_, by assumption, rfl⟩) | cases this
theorem Tab.arr_ok {t n : Nat} {e : TypeId} (h : E.kd t = some (.arr n e)) : P.underlying t = some (.array n e) := by
  have := Tab.kd_ok hE h
  unfold kdOf at this
  split at this <;> first | (cases this; assumption) | cases this
theorem Tab.some_ok {t : TypeId} {x : TyKd} (h : E.kd t = some x) : (P.underlying t).isSome = true := by
  have := Tab.kd_ok hE h
  unfold kdOf at this
  split at this <;> first | cases this; done | (rename_i h; rw [h]; rfl) | skip
  all_goals (rename_i h; first | (rw [h]; rfl) | (cases this))
end

def mkT (g : Bool) (xs : List AV) : T :=
  if g then .agg (xs.map AV.bor) else match xs with
    | [x] => .one x.bor
    | _ => .dead

def T.cells : T → Option (List AV)
  | .one x => some [x]
  | .agg xs => some xs
  | _ => none

abbrev News := List (Nat × Blk)

section
variable (E : Tab) (m : Nat → Option Blk) (K : T → News → Prop)

def opPick (c a b : T) : Prop :=
  match c with
  | .one (.lit (.bool cb)) => match cb with
    | true => K a []
    | false => K b []
  | _ => False

def opAlloc (site : Nat) (t : TypeId) : Prop :=
  match E.zr t with
  | some zs => K (.one (.ptr site 0)) [(site, .var (zs.map .lit))]
  | none => False

def opBox (site : Nat) (x : T) : Prop :=
  match x.cells with
  | some xs => K (.one (.ptr site 0)) [(site, .var xs)]
  | none => False

def opLoad (t : TypeId) (a : T) : Prop :=
  match E.ty t with
  | some (sz, g) => match a with
    | .one (.ptr s j) => match m s with
      | some (.var xs) => if j + sz ≤ xs.length then K (mkT g ((xs.drop j).take sz)) [] else False
      | _ => False
    | .one (.eptr s i j) => match m s with
      | some (.row _ _ es) => ∃ e, es[i]? = some e ∧ if j + sz ≤ e.length then K (mkT g ((e.drop j).take sz)) [] else False
      | _ => False
    | .one (.bptr xs j) => if j + sz ≤ xs.length then K (mkT g ((xs.drop j).take sz)) [] else False
    | .one (.lit (.pointer (some ⟨b, j, none⟩))) => match GV b with
      | some cs => if j + sz ≤ cs.length then K (mkT g (((cs.drop j).take sz).map .lit)) [] else False
      | none => False
    | _ => False
  | none => False

def opFieldAddr (s : TypeId) (f : Nat) (x : T) : Prop :=
  match E.fld s f with
  | some (o, _, _) => match x with
    | .one (.ptr s j) => K (.one (.ptr s (j + o))) []
    | .one (.eptr s i j) => K (.one (.eptr s i (j + o))) []
    | .one (.bptr xs j) => K (.one (.bptr xs (j + o))) []
    | _ => False
  | none => False

def opField (s : TypeId) (f : Nat) (x : T) : Prop :=
  match E.fld s f with
  | some (o, sz, g) => match x with
    | .agg xs => if o + sz ≤ xs.length then K (mkT g ((xs.drop o).take sz)) [] else False
    | _ => False
  | none => False

def opIndexAddr (t : TypeId) (x i : T) : Prop :=
  match E.el t with
  | some (_, sz, _) => match x, i with
    | .one (.loc s off len), .one (.lit (.int _ n)) => ∃ i : Nat, n = (i : Int) ∧ i < len ∧ (match m s with
      | some (.row _ rz _) => if rz = sz then K (.one (.eptr s (off + i) 0)) [] else False
      | _ => False)
    | .one (.row _ rz es), .one (.lit (.int _ n)) => if rz = sz then ∃ i : Nat, n = (i : Int) ∧ ∃ e, es[i]? = some e ∧ K (.one (.bptr e 0)) [] else False
    | .one (.lit (.slice A len cap)), .one (.lit (.int _ n)) => ∃ (s : Nat) (o : Bool) (es : List (List AV)), m s = some (.par (.slice A len cap) (.row o sz es)) ∧ ∃ i : Nat, n = (i : Int) ∧ ∃ e, es[i]? = some e ∧ K (.one (.bptr e 0)) []
    | _, _ => False
  | none => match E.kd t with
    | some (.arr n e) => match E.ty e, x, i with
      | some (sz, _), .one (.ptr s j), .one (.lit (.int _ q)) => ∃ i : Nat, q = (i : Int) ∧ i < n ∧ K (.one (.ptr s (j + i * sz))) []
      | some (sz, _), .one (.bptr xs j), .one (.lit (.int _ q)) => ∃ i : Nat, q = (i : Int) ∧ i < n ∧ K (.one (.bptr xs (j + i * sz))) []
      | some (sz, _), .one (.lit (.pointer (some ⟨b, j, none⟩))), .one (.lit (.int _ q)) => ∃ i : Nat, q = (i : Int) ∧ i < n ∧ K (.one (.lit (.pointer (some ⟨b, j + i * sz, none⟩)))) []
      | _, _, _ => False
    | _ => False

def opIndex (t : TypeId) (x i : T) : Prop :=
  match E.kd t, x, i with
    | some .str, .one (.lit (.string s)), .one (.lit (.int _ n)) => ∃ i : Nat, n = (i : Int) ∧ i < s.size ∧ K (.one (.lit (.int .u8 ((s.data.toList.getD i 0).toNat : Int)))) []
    | some (.arr n e), .agg xs, .one (.lit (.int _ q)) => match E.ty e with
      | some (1, false) => ∃ i : Nat, q = (i : Int) ∧ i < n ∧ ∃ v, xs[i]? = some v ∧ K (.one v.bor) []
      | _ => False
    | _, _, _ => False

def optInt : Option T → Option (Option Int)
  | none => some none
  | some (.one (.lit (.int _ n))) => some (some n)
  | _ => none

def opSlice (t : TypeId) (x : T) (lo hi : Option T) : Prop :=
  match optInt lo, optInt hi with
  | some lo, some hi => match E.kd t with
    | some .str => match x with
      | .one (.lit (.string s)) => 0 ≤ lo.getD 0 ∧ lo.getD 0 ≤ hi.getD s.size ∧ hi.getD s.size ≤ (s.size : Int) ∧
          ∃ s', s' = s.extract (lo.getD 0).toNat (hi.getD s.size).toNat ∧ K (.one (.lit (.string s'))) []
      | _ => False
    | some .sl => match E.el t with
      | some (_, sz, _) => match x with
        | .one (.loc s off len) => 0 ≤ lo.getD 0 ∧ lo.getD 0 ≤ hi.getD len ∧ hi.getD len ≤ (len : Int) ∧ (match m s with
          | some (.row _ rz _) => if rz = sz then ∃ o l, o = off + (lo.getD 0).toNat ∧ l = (hi.getD len).toNat - (lo.getD 0).toNat ∧ K (.one (.loc s o l)) [] else False
          | _ => False)
        | .one (.row _ rz es) => 0 ≤ lo.getD 0 ∧ lo.getD 0 ≤ hi.getD es.length ∧ hi.getD es.length ≤ (es.length : Int) ∧ if rz = sz then
            ∃ es', es' = (es.drop (lo.getD 0).toNat).take ((hi.getD es.length).toNat - (lo.getD 0).toNat) ∧ K (.one (.row false rz es')) [] else False
        | .one (.lit (.slice A len cap)) => 0 ≤ lo.getD 0 ∧ lo.getD 0 ≤ hi.getD len ∧ hi.getD len ≤ (len : Int) ∧ len ≤ cap ∧
            ∃ V, V = .slice (if cap = (lo.getD 0).toNat then A else A.map (·.add ((lo.getD 0).toNat * sz))) ((hi.getD (len : Int)).toNat - (lo.getD 0).toNat) (cap - (lo.getD 0).toNat) ∧ K (.one (.lit V)) []
        | _ => False
      | none => False
    | _ => False
  | _, _ => False

def sless (a b : ByteArray) : Bool := Op.bytesLess a.toList b.toList

def opBin (op : BinOp) (t : TypeId) (x y : T) : Prop :=
  match x, y with
  | .one (.lit (.int k a)), .one (.lit (.int k' b)) =>
    match op with
    | .shl => 0 ≤ b ∧ ∃ r, r = k.wrap (a * 2 ^ (min b.toNat k.bits)) ∧ K (.one (.lit (.int k r))) []
    | .shr => 0 ≤ b ∧ ∃ r, r = a.fdiv (2 ^ (min b.toNat k.bits)) ∧ K (.one (.lit (.int k r))) []
    | op => if k = k' then match op with
      | .add => ∃ r, r = k.wrap (a + b) ∧ K (.one (.lit (.int k r))) []
      | .sub => ∃ r, r = k.wrap (a - b) ∧ K (.one (.lit (.int k r))) []
      | .mul => ∃ r, r = k.wrap (a * b) ∧ K (.one (.lit (.int k r))) []
      | .quo => b ≠ 0 ∧ ∃ r, r = k.wrap (a.tdiv b) ∧ K (.one (.lit (.int k r))) []
      | .rem => b ≠ 0 ∧ ∃ r, r = a.tmod b ∧ K (.one (.lit (.int k r))) []
      | .eql => K (.one (.lit (.bool (decide (a = b))))) []
      | .neq => K (.one (.lit (.bool (!decide (a = b))))) []
      | .lss => K (.one (.lit (.bool (decide (a < b))))) []
      | .leq => K (.one (.lit (.bool (decide (a ≤ b))))) []
      | .gtr => K (.one (.lit (.bool (decide (b < a))))) []
      | .geq => K (.one (.lit (.bool (decide (b ≤ a))))) []
      | .and => K (.one (.lit (.int k (bits .and k a b)))) []
      | .or => K (.one (.lit (.int k (bits .or k a b)))) []
      | .xor => K (.one (.lit (.int k (bits .xor k a b)))) []
      | .andNot => K (.one (.lit (.int k (bits .andNot k a b)))) []
      | _ => False
      else False
  | .one (.lit (.string a)), .one (.lit (.string b)) =>
    match op with
    | .add => a.size + b.size ≤ 9223372036854775807 ∧ K (.one (.lit (.string (a ++ b)))) []
    | .eql => K (.one (.lit (.bool (decide (a = b))))) []
    | .neq => K (.one (.lit (.bool (!decide (a = b))))) []
    | .lss => K (.one (.lit (.bool (sless a b)))) []
    | .leq => K (.one (.lit (.bool (sless a b || decide (a = b))))) []
    | .gtr => K (.one (.lit (.bool (!(sless a b || decide (a = b)))))) []
    | .geq => K (.one (.lit (.bool (!sless a b)))) []
    | _ => False
  | .one (.nn _ _), .one (.lit (.slice none 0 0)) => match E.kd t, op with
    | some .sl, .eql => K (.one (.lit (.bool false))) []
    | some .sl, .neq => K (.one (.lit (.bool true))) []
    | _, _ => False
  | .one (.lit (.slice none _ _)), .one (.lit (.slice none 0 0)) => match E.kd t, op with
    | some .sl, .eql => K (.one (.lit (.bool true))) []
    | some .sl, .neq => K (.one (.lit (.bool false))) []
    | _, _ => False
  | .one (.lit (.bool a)), .one (.lit (.bool b)) =>
    match E.kd t with
    | some .bool => match op with
      | .eql => K (.one (.lit (.bool (a == b)))) []
      | .neq => K (.one (.lit (.bool (!(a == b))))) []
      | _ => False
    | _ => False
  | _, _ => False

def opUn (op : UnOp) (x : T) : Prop :=
  match op, x with
  | .not, .one (.lit (.bool b)) => K (.one (.lit (.bool (!b)))) []
  | .neg, .one (.lit (.int k n)) => ∃ r, r = k.wrap (0 - n) ∧ K (.one (.lit (.int k r))) []
  | .xor, .one (.lit (.int k n)) => K (.one (.lit (.int k (bits .xor k (if k.signed then -1 else k.max) n)))) []
  | _, _ => False

def opConv (src dst : TypeId) (x : T) : Prop :=
  match x with
  | .one (.lit (.int _ n)) => match E.kd dst, E.kd src with
    | some (.int k), some _ => ∃ r, r = k.wrap n ∧ K (.one (.lit (.int k r))) []
    | _, _ => False
  | .one (.lit (.string s)) => match E.kd dst, E.kd src with
    | some .str, some _ => K (.one (.lit (.string s))) []
    | _, _ => False
  | _ => False

def opNilCheck (x : T) : Prop :=
  match x with
  | .one (.ptr s j) => K (.one (.ptr s j)) []
  | .one (.eptr s i j) => K (.one (.eptr s i j)) []
  | .one (.bptr xs j) => K (.one (.bptr xs j)) []
  | .one (.fn f cs) => K (.one (.fn f cs)) []
  | _ => False

def opExtract (x : T) (i : Nat) : Prop :=
  match x with
  | .tup ts => match ts[i]? with
    | some (false, [y]) => K (.one y) []
    | some (true, ys) => K (.agg ys) []
    | _ => False
  | _ => False

def ones : List T → Option (List AV)
  | [] => some []
  | .one x :: l => (ones l).map (x :: ·)
  | _ :: _ => none

def opMakeFunc (fn : Fn) (first : Nat) (caps : List T) : Prop :=
  match fn, first, ones caps with
  | .func f, 0, some xs => K (.one (.fn f xs)) []
  | _, _, _ => False

def opMakeSlice (site : Nat) (t : TypeId) (l c : T) : Prop :=
  match E.el t, l, c with
  | some (e, sz, by_), .one (.lit (.int _ l)), .one (.lit (.int _ c)) => match E.zr e with
    | some zs => if zs.length = sz then ∃ i : Nat, l = (i : Int) ∧ l ≤ c ∧ (by_ : Int) * c ≤ 281474976710656 ∧ c ≤ (maxLen : Nat) ∧
        K (.one (.loc site 0 i)) [(site, .row true sz (List.replicate i (zs.map .lit)))] else False
    | none => False
  | _, _, _ => False

def splice (sz : Nat) (ys : List AV) : Nat → List AV → List AV
  | 0, xs => ys ++ xs.drop sz
  | _ + 1, [] => ys
  | o + 1, x :: xs => x :: splice sz ys o xs
@[simp] theorem splice_eq (sz : Nat) (ys : List AV) : ∀ (o : Nat) (xs : List AV), splice sz ys o xs = xs.take o ++ ys ++ xs.drop (o + sz)
  | 0, xs => by simp [splice]
  | o + 1, [] => by simp [splice]
  | o + 1, x :: xs => by simp [splice, splice_eq sz ys o xs, Nat.add_right_comm o 1 sz]
def fillA (place : Nat → Option (Nat × Nat)) : List (Nat × T) → List AV → Option (List AV)
  | [], xs => some xs
  | (i, t) :: l, xs => match place i, t.cells with
    | some (o, sz), some ys => if ys.length = sz ∧ o + sz ≤ xs.length then fillA place l (splice sz ys o xs) else none
    | _, _ => none

def opBuild (t : TypeId) (ps : List (Nat × T)) : Prop :=
  match E.zr t, E.kd t with
  | some zs, some (.struct n) => match fillA (fun i => match E.fld t i with | some x => some (x.1, x.2.1) | none => none) ps (zs.map .lit), (List.range n).all fun i => (E.fld t i).isSome with
    | some xs, true => K (.agg xs) []
    | _, _ => False
  | some zs, some (.arr _ e) => match E.ty e with
    | some (sz, _) => match fillA (fun i => some (i * sz, sz)) ps (zs.map .lit) with
      | some xs => K (.agg xs) []
      | none => False
    | none => False
  | _, _ => False

def chunk (sz : Nat) (xs : List AV) : Nat → List (List AV)
  | 0 => []
  | n + 1 => xs.take sz :: chunk sz (xs.drop sz) n

def opBuildSlice (site : Nat) (t : TypeId) (len : Nat) (ps : List (Nat × T)) : Prop :=
  match E.el t with
  | some (e, sz, _) => match E.zr e with
    | some zs => if zs.length = sz ∧ len * sz ≤ 16777216 then (match fillA (fun i => some (i * sz, sz)) ps ((List.replicate len (zs.map .lit)).flatten) with
      | some xs => K (.one (.loc site 0 len)) [(site, .row ((xs.map AV.bor).all AV.isData) sz (chunk sz (xs.map AV.bor) len))]
      | none => False) else False
    | none => False
  | none => False

def opLen (t : TypeId) (x : T) : Prop :=
  match E.kd t, x with
  | some .str, .one (.lit (.string s)) => K (.one (.lit (.int .i64 (s.size : Int)))) []
  | some .sl, .one (.loc _ _ len) => K (.one (.lit (.int .i64 (len : Int)))) []
  | some .sl, .one (.row _ _ es) => K (.one (.lit (.int .i64 (es.length : Int)))) []
  | some .sl, .one (.nn _ es) => K (.one (.lit (.int .i64 (es.length : Int)))) []
  | some .sl, .one (.lit (.slice _ len _)) => K (.one (.lit (.int .i64 (len : Int)))) []
  | _, _ => False

def opMinMax (mx : Bool) (x y : T) : Prop :=
  match x, y with
  | .one (.lit (.int k a)), .one (.lit (.int _ b)) => K (.one (.lit (.int k (if mx then max a b else min a b)))) []
  | _, _ => False
end
end Go.Proofs.YtjajnladldchcaaDoor
namespace Go.Proofs.YtjajnladldchcaaDoor
open Go.RowKit
set_option linter.unusedSimpArgs false
set_option linter.unusedVariables false

section
variable {P : Program} {w0 w : World} {L : Nat → Prop} {n : Nat} {σ : AS} {a : Act} {c : Ctx} {F : Nat → Nat → Prop}

theorem tyI_some {t : TypeId} {sz : Nat} {g : Bool} (h : tyI P t = some (sz, g)) : ∃ i d, P.info? t = some i ∧ P.underlying t = some d ∧ i.size = sz ∧ aggD d = g ∧ (g = false → sz = 1) := by
  unfold tyI at h
  split at h
  · rename_i i d hi hd
    split at h
    · rename_i hc
      simp at h
      refine ⟨i, d, hi, hd, h.1, h.2, fun hg => ?_⟩
      rw [h.2, hg] at hc
      simp at hc
      omega
    · cases h
  · cases h

theorem run_isAgg {t : TypeId} {d : TypeDesc} (hd : P.underlying t = some d) (w : World) : (isAgg t).run P w = .ok (aggD d) w := by
  cases d <;> simp [isAgg, run_underlying hd, aggD]

theorem run_sizeOf {t : TypeId} {i : TypeInfo} (hi : P.info? t = some i) (w : World) : (sizeOf t).run P w = .ok i.size w := by simp [sizeOf, typeInfo, hi]

theorem run_loadVar_cells {t : TypeId} {sz : Nat} {g : Bool} (h : tyI P t = some (sz, g)) {b o : Nat} (vs : List Value) (hl : vs.length = sz) (hv : ∀ k v, vs[k]? = some v → w.cell? ⟨b, o + k, none⟩ = some v) :
    (loadVar t ⟨b, o, none⟩).run P w = .ok (if g then .agg vs.toArray else vs.headD default) w := by
  obtain ⟨i, d, hi, hd, rfl, rfl, h1⟩ := tyI_some h
  have hadd : ∀ k, (⟨b, o, none⟩ : Addr).add k = ⟨b, o + k, none⟩ := fun k => by unfold Addr.add; split <;> simp_all
  cases hg : aggD d with
  | true =>
    have := run_loadCells_list (P := P) w ⟨b, o, none⟩ vs (fun j v hj => by rw [hadd]; exact hv j v hj)
    rw [hl] at this
    simp [loadVar, run_isAgg hd, hg, run_sizeOf hi, this]
  | false =>
    have h2 := h1 hg
    rw [h2] at hl
    match vs, hl with
    | [v], _ =>
      have := hv 0 v rfl
      simp only [Nat.add_zero] at this
      simp [loadVar, run_isAgg hd, hg, this]

theorem RT_mkT {xs : List AV} {vs : List Value} {g : Bool} {sz : Nat} (hg : g = false → sz = 1) (hl : xs.length = sz) (h : RL c w xs vs) : RT c w (mkT g xs) (if g then .agg vs.toArray else vs.headD default) := by
  have h' := h.map_bor
  cases g with
  | true => simp only [mkT, if_true, RT]; exact h'
  | false =>
    have := hg rfl
    rw [this] at hl
    match xs, vs, hl, h with
    | [x], [v], _, h => simpa [mkT, RT] using ⟨h.1.1.bor, h.1.2⟩

theorem H.rowCell (h : H w0 L n σ a w c F) {s : Nat} {p : Bool} {sz : Nat} {es : List (List AV)} (hs : σ.mem s = some (.row p sz es)) {i : Nat} {e : List AV} (he : es[i]? = some e) :
    ∃ b cap, c.at_ s = some (.row b cap sz) ∧ e.length = sz ∧ F s b ∧ ∃ vs : List Value, RL c w e vs ∧ ∀ (k : Nat) (v : Value), vs[k]? = some v → w.cell? ⟨b, i * sz + k, none⟩ = some v := by
  rcases h.mem s _ hs with ⟨_, rfl, _⟩ | ⟨b, cap, hat, C, el, fz, G, a1, a2, a3, a4, a5, a6, a7, a8, a9, a10, a11, a12⟩
  · simp at he
  obtain ⟨hi, rfl⟩ := List.getElem?_eq_some_iff.1 he
  have hel := a6 _ (List.getElem_mem hi)
  refine ⟨b, cap, hat, hel, (a12 b).2 (.inl rfl), (C.toList.drop (i * sz)).take sz, ?_, fun k v hv => ?_⟩
  · have hfit : ∀ j, j < sz → i * sz + j < C.size := fun j hj => by rw [a5]; exact fit_lt hi hj a3
    refine RL.of ?_ fun k x v hx hv => ?_
    · rw [hel, List.length_take, List.length_drop, Array.length_toList, a5]
      have : (i + 1) * sz ≤ cap * sz := Nat.mul_le_mul_right _ (by omega)
      rw [Nat.add_mul] at this
      omega
    · rw [List.getElem?_take] at hv
      split at hv
      · rename_i hk
        rw [List.getElem?_drop] at hv
        have hx' : elt es i k = some x := by simp [elt, hi, hx]
        have hv' : C[i * sz + k]? = some v := by simpa using hv
        refine ⟨?_, a7 i k x v hx' hv'⟩
        rcases a8 i k x v hx' hv' with h1 | h1
        · refine h1.read fun q hq => ?_
          have hF : F s q := (a12 q).2 (.inr ⟨i, k, hq⟩)
          rw [h.inn s q hF]
          rintro (ht | ⟨_, _, ht⟩)
          · rw [hat] at ht; cases ht
          · rw [hat] at ht; cases ht; exact a9 i k hq
        · exact h1.2.2.1
      · cases hv
  · rw [List.getElem?_take] at hv
    split at hv
    · rw [List.getElem?_drop] at hv
      simp only [World.cell?, a1, Option.isSome_none, Bool.false_eq_true, if_false]
      simpa using hv
    · cases hv

theorem H.varCells (h : H w0 L n σ a w c F) {s : Nat} {xs : List AV} (hs : σ.mem s = some (.var xs)) :
    ∃ b, c.at_ s = some (.var b) ∧ F s b ∧ ∃ vs : List Value, RL c w xs vs ∧ ∀ (k : Nat) (v : Value), vs[k]? = some v → w.cell? ⟨b, k, none⟩ = some v := by
  obtain ⟨b, C, e, fz, a1, a2, a3, a4, a5⟩ := h.varCell hs
  refine ⟨b, a1, a5, C.toList, a4, fun k v hv => ?_⟩
  simp only [World.cell?, a2, Option.isSome_none, Bool.false_eq_true, if_false]
  simpa using hv

theorem R.bptrCells {xs : List AV} {j : Nat} {v : Value} (h : R c w (.bptr xs j) v) : ∃ b o, v = .pointer (some ⟨b, o + j, none⟩) ∧ c.I b ∧ (∀ (k : Nat) (x : AV), xs[k]? = some x → x.isFree = true) ∧ ∃ vs : List Value, RL c w xs vs ∧ ∀ (k : Nat) (v : Value), vs[k]? = some v → w.cell? ⟨b, o + k, none⟩ = some v := by
  cases h with
  | bptr b o vals a1 a0 a2 a3 a4 =>
    refine ⟨b, o, rfl, a1, a0, (List.range xs.length).map vals, RL.of (by simp) fun k x u hx hu => ?_, fun k u hu => ?_⟩
    · have hk := (List.getElem?_eq_some_iff.1 hx).1
      simp [hk] at hu
      subst hu
      exact ⟨a4 k x hx, a3 k x hx⟩
    · have hk : k < xs.length := by have := (List.getElem?_eq_some_iff.1 hu).1; simpa using this
      simp [hk] at hu
      subst hu
      exact a2 k xs[k] (by simp [hk])

def Post (w0 : World) (L : Nat → Prop) (n : Nat) (σ : AS) (a : Act) (news : News) (v : T) (V : Value) (w' : World) : Prop :=
  ∃ c' F', H w0 L n (σ.adds news) a w' c' F' ∧ RT c' w' v V

variable {K : T → News → Prop}
def Fresh (m : Nat → Option Blk) (news : News) : Prop := ∀ x ∈ news, m x.1 = none

theorem take_cells {xs : List AV} {vs : List Value} {b o j sz : Nat} (hv : ∀ (k : Nat) (v : Value), vs[k]? = some v → w.cell? ⟨b, o + k, none⟩ = some v) :
    ∀ (k : Nat) (v : Value), ((vs.drop j).take sz)[k]? = some v → w.cell? ⟨b, o + j + k, none⟩ = some v := fun k v h => by
  rw [List.getElem?_take] at h
  split at h
  · rw [List.getElem?_drop] at h
    rw [Nat.add_assoc]; exact hv _ _ h
  · cases h

theorem opLoad_ok {E : Tab} (hE : E.ok P) (h : H w0 L n σ a w c F) {m : Nat → Option Blk} (hm : Sup σ m) {t : TypeId} {x : T} {X : Value} (hX : RT c w x X) (hk : opLoad E m K t x) :
    ∃ v V, K v [] ∧ (Instr.loadAt t X).run P w = .ok V w ∧ RT c w v V := by
  unfold opLoad at hk
  split at hk
  case h_2 => exact hk.elim
  rename_i sz g hty
  replace hty := Tab.ty_ok hE hty
  have hg : g = false → sz = 1 := by obtain ⟨i, d, _, _, _, _, h1⟩ := tyI_some hty; exact h1
  split at hk
  · rename_i s j
    split at hk
    case h_2 => exact hk.elim
    rename_i xs hs
    split at hk
    case isFalse => exact hk.elim
    rename_i hle
    obtain ⟨hX, _⟩ := hX
    cases hX with | @ptr _ _ b hp =>
    replace hs := h.look hm hp hs
    obtain ⟨b', hat, _, vs, hR, hv⟩ := h.varCells hs
    rw [hp] at hat; cases hat
    have hl := hR.length
    have hc := take_cells (xs := xs) (b := b) (o := 0) (j := j) (sz := sz) (vs := vs) (w := w) (fun k v hkv => by rw [Nat.zero_add]; exact hv k v hkv)
    simp only [Nat.zero_add] at hc
    refine ⟨_, _, hk, ?_, RT_mkT hg (by simp; omega) ((hR.drop j).take sz)⟩
    simp only [Instr.loadAt, Instr.sureAddr, Sem.run_bind, Sem.run_pure, Result.andThen_ok]
    exact run_loadVar_cells hty _ (by simp; omega) hc
  · rename_i s i j
    split at hk
    case h_2 => exact hk.elim
    rename_i p rz es hs
    obtain ⟨e, he, hk⟩ := hk
    split at hk
    case isFalse => exact hk.elim
    rename_i hle
    obtain ⟨hX, _⟩ := hX
    cases hX with | @eptr _ _ _ b cap rz' hp =>
    replace hs := h.look hm hp hs
    obtain ⟨b', cap', hat, hel, _, vs, hR, hv⟩ := h.rowCell hs he
    rw [hp] at hat; cases hat
    have hl := hR.length
    have hc := take_cells (xs := e) (b := b) (o := i * rz) (j := j) (sz := sz) (vs := vs) (w := w) hv
    refine ⟨_, _, hk, ?_, RT_mkT hg (by simp; omega) ((hR.drop j).take sz)⟩
    simp only [Instr.loadAt, Instr.sureAddr, Sem.run_bind, Sem.run_pure, Result.andThen_ok]
    exact run_loadVar_cells hty _ (by simp; omega) hc
  · rename_i xs j
    split at hk
    case isFalse => exact hk.elim
    rename_i hle
    obtain ⟨hX, _⟩ := hX
    obtain ⟨b, o, rfl, _, _, vs, hR, hv⟩ := hX.bptrCells
    have hl := hR.length
    refine ⟨_, _, hk, ?_, RT_mkT hg (by simp; omega) ((hR.drop j).take sz)⟩
    simp only [Instr.loadAt, Instr.sureAddr, Sem.run_bind, Sem.run_pure, Result.andThen_ok]
    exact run_loadVar_cells hty _ (by simp; omega) (take_cells (xs := xs) hv)
  · rename_i b j
    split at hk
    case h_2 => exact hk.elim
    rename_i cs hcs
    split at hk
    case isFalse => exact hk.elim
    rename_i hle
    obtain ⟨hX, _⟩ := hX
    cases hX
    obtain ⟨g1, g2, g3⟩ := h.gl.1 b cs hcs
    have hv : ∀ (k : Nat) (v : Value), cs[k]? = some v → w.cell? ⟨b, 0 + k, none⟩ = some v := fun k v hk => by
      rw [Nat.zero_add, cell?_same (h.keeps.block b g1.1 g1.2)]; exact (g3 k v hk).1
    have hall : (((cs.drop j).take sz)).all (·.oneCell') = true := List.all_eq_true.2 fun v hv => by
      obtain ⟨q, hq⟩ := List.getElem?_of_mem (List.mem_of_mem_drop (List.mem_of_mem_take hv))
      exact (g3 q v hq).2
    have hc := take_cells (xs := []) (b := b) (o := 0) (j := j) (sz := sz) (vs := cs) (w := w) hv
    simp only [Nat.zero_add] at hc
    refine ⟨_, _, hk, ?_, RT_mkT hg (by simp; omega) (RL.lits c w _ hall)⟩
    simp only [Instr.loadAt, Instr.sureAddr, Sem.run_bind, Sem.run_pure, Result.andThen_ok]
    exact run_loadVar_cells hty _ (by simp; omega) hc
  · exact hk.elim

theorem fldI_some {s f o sz : Nat} {g : Bool} (h : fldI P s f = some (o, sz, g)) : ∃ fs fd, P.underlying s = some (.struct fs) ∧ fs[f]? = some fd ∧ fd.offset = o ∧ tyI P fd.type = some (sz, g) ∧ sz ≠ 0 := by
  unfold fldI at h
  split at h
  · rename_i fs hs
    split at h
    · rename_i fd hf
      split at h
      · rename_i sz' g' ht
        split at h
        · cases h
        · simp at h; obtain ⟨rfl, rfl, rfl⟩ := h; exact ⟨fs, fd, hs, hf, rfl, ht, by assumption⟩
      · cases h
    · cases h
  · cases h

theorem run_fieldAt {s f o sz : Nat} {g : Bool} (h : fldI P s f = some (o, sz, g)) (b k : Nat) (w : World) :
    (Instr.fieldAt s (.pointer (some ⟨b, k, none⟩)) f).run P w = .ok (.pointer (some ⟨b, k + o, none⟩)) w := by
  obtain ⟨fs, fd, h1, h2, rfl, h4, h5⟩ := fldI_some h
  obtain ⟨i, d, hi, hd, rfl, _, _⟩ := tyI_some h4
  have hadd : (⟨b, k, none⟩ : Addr).add fd.offset = ⟨b, k + fd.offset, none⟩ := by unfold Addr.add; split <;> simp_all
  simp [Instr.fieldAt, run_underlying h1, h2, Instr.sureAddr, fieldPlace, run_sizeOf hi, h5, hadd]

theorem opFieldAddr_all {E : Tab} (hE : E.ok P) {s : TypeId} {f : Nat} {x : T} {X : Value} (hX : RT c w x X) (hk : opFieldAddr E K s f x) :
    ∃ v V, K v [] ∧ (∀ w' : World, (Instr.fieldAt s X f).run P w' = .ok V w') ∧ RT c w v V := by
  unfold opFieldAddr at hk
  split at hk
  case h_2 => exact hk.elim
  rename_i o sz g hf
  replace hf := Tab.fld_ok hE hf
  split at hk
  · obtain ⟨hX, _⟩ := hX
    cases hX with | ptr hp => exact ⟨_, _, hk, fun w' => run_fieldAt hf _ _ w', .ptr hp, rfl⟩
  · obtain ⟨hX, _⟩ := hX
    cases hX with | eptr hp => exact ⟨_, _, hk, fun w' => run_fieldAt hf _ _ w', by rw [Nat.add_assoc]; exact .eptr hp, rfl⟩
  · obtain ⟨hX, _⟩ := hX
    cases hX with | bptr b o' vals a1 a0 a2 a3 a4 => exact ⟨_, _, hk, fun w' => run_fieldAt hf _ _ w', by rw [Nat.add_assoc]; exact .bptr b o' vals a1 a0 a2 a3 a4, rfl⟩
  · exact hk.elim

theorem opFieldAddr_ok {E : Tab} (hE : E.ok P) {s : TypeId} {f : Nat} {x : T} {X : Value} (hX : RT c w x X) (hk : opFieldAddr E K s f x) :
    ∃ v V, K v [] ∧ (Instr.fieldAt s X f).run P w = .ok V w ∧ RT c w v V :=
  let ⟨v, V, h1, h2, h3⟩ := opFieldAddr_all hE hX hk
  ⟨v, V, h1, h2 w, h3⟩

theorem run_part {t sz : Nat} {g : Bool} (h : tyI P t = some (sz, g)) (cs : Array Value) (o : Nat) (hl : o + sz ≤ cs.size) (w : World) :
    (part t cs o).run P w = .ok (if g then .agg ((cs.toList.drop o).take sz).toArray else ((cs.toList.drop o).take sz).headD default) w := by
  obtain ⟨i, d, hi, hd, rfl, rfl, h1⟩ := tyI_some h
  cases hg : aggD d with
  | true =>
    simp [part, run_isAgg hd, hg, run_sizeOf hi]
    apply Array.ext'
    simp [List.take_drop, Nat.add_comm]
  | false =>
    have h2 := h1 hg
    have h3 : o < cs.size := by omega
    simp [part, run_isAgg hd, hg, h3, h2]
    rw [List.drop_eq_getElem_cons (by simpa using h3)]
    simp

theorem opField_ok {E : Tab} (hE : E.ok P) {s : TypeId} {f : Nat} {x : T} {X : Value} (hX : RT c w x X) (hk : opField E K s f x) :
    ∃ v V, K v [] ∧ (Instr.field s X f).run P w = .ok V w ∧ RT c w v V := by
  unfold opField at hk
  split at hk
  case h_2 => exact hk.elim
  rename_i o sz g hf
  replace hf := Tab.fld_ok hE hf
  split at hk
  case h_2 => exact hk.elim
  rename_i xs
  split at hk
  case isFalse => exact hk.elim
  rename_i hle
  cases X with
  | agg cs =>
    have hR : RL c w xs cs.toList := hX
    have hl := hR.length
    obtain ⟨fs, fd, h1, h2, rfl, h4, h5⟩ := fldI_some hf
    obtain ⟨i, d, _, _, _, _, hg⟩ := tyI_some h4
    refine ⟨_, _, hk, ?_, RT_mkT hg (by simp; omega) ((hR.drop fd.offset).take sz)⟩
    simp only [Instr.field, Sem.run_bind, run_underlying h1, Result.andThen_ok, h2, asAgg, Sem.run_pure]
    exact run_part h4 cs _ (by simpa [hl] using hle) w
  | _ => exact hX.elim

theorem elI_some {t e sz by_ : Nat} (h : elI P t = some (e, sz, by_)) : ∃ i, P.underlying t = some (.slice e) ∧ P.info? e = some i ∧ i.size = sz ∧ i.bytes = by_ ∧ sz ≠ 0 := by
  unfold elI at h
  split at h
  · rename_i e' hs
    split at h
    · rename_i i hi
      split at h
      · cases h
      · simp at h; obtain ⟨rfl, rfl, rfl⟩ := h; exact ⟨i, hs, hi, rfl, rfl, by assumption⟩
    · cases h
  · cases h

theorem run_indexAt {t e sz by_ : Nat} (h : elI P t = some (e, sz, by_)) (b o len cap : Nat) (k : IntKind) (i : Int) (h0 : 0 ≤ i) (h1 : i < len) (w : World) :
    (Instr.indexAt t (.slice (some ⟨b, o, none⟩) len cap) (.int k i)).run P w = .ok (.pointer (some ⟨b, o + i.toNat * sz, none⟩)) w := by
  obtain ⟨inf, hu, hi, rfl, _, _⟩ := elI_some h
  have hadd : (⟨b, o, none⟩ : Addr).add (i.toNat * inf.size) = ⟨b, o + i.toNat * inf.size, none⟩ := by unfold Addr.add; split <;> simp_all
  simp [Instr.indexAt, asIntOf, run_underlying hu, h0, h1, run_sizeOf hi, hadd]

theorem rowIndex_all {t e sz by_ : Nat} (he : elI P t = some (e, sz, by_)) {own : Bool} {es : List (List AV)} {X : Value} (hX : R c w (.row own sz es) X) {ik : IntKind} {qn : Nat} {e' : List AV} (he' : es[qn]? = some e') :
    ∃ V, (∀ w' : World, (Instr.indexAt t X (.int ik (qn : Int))).run P w' = .ok V w') ∧ RT c w (.one (.bptr e' 0)) V := by
    cases hX with
    | @row _ _ _ A cap b o vals a1 a2 a3 a4 a0 a5 a6 a7 =>
      obtain ⟨hlt, rfl⟩ := List.getElem?_eq_some_iff.1 he'
      obtain ⟨rfl, hIb⟩ := a3 (by omega)
      refine ⟨_, fun w' => run_indexAt he _ _ _ _ _ _ (by omega) (by omega) w', ?_, rfl⟩
      have hx : ∀ (k : Nat) (x : AV), es[qn][k]? = some x → elt es qn k = some x := fun k x hx => by simp [elt, hlt, hx]
      have := R.bptr (c := c) (w := w) (xs := es[qn]) (j := 0) b (o + qn * sz) (fun k => vals qn k) hIb
        (fun k x hk => by have := a0 _ _ _ (hx k x hk); cases x <;> simp_all [AV.isCell, AV.isFree]) (fun k x hk => a5 _ _ _ (hx k x hk)) (fun k x hk => a6 _ _ _ (hx k x hk)) (fun k x hk => a7 _ _ _ (hx k x hk))
      simpa using this

theorem opIndexAddr_all {E : Tab} (hE : E.ok P) (h : H w0 L n σ a w c F) {m : Nat → Option Blk} (hm : Sup σ m) {t : TypeId} {x i : T} {X I : Value} (hX : RT c w x X) (hI : RT c w i I) (hk : opIndexAddr E m K t x i) :
    ∃ v V, K v [] ∧ (∀ w' : World, (Instr.indexAt t X I).run P w' = .ok V w') ∧ RT c w v V := by
  unfold opIndexAddr at hk
  split at hk
  case h_2 =>
    split at hk
    case h_2 => exact hk.elim
    rename_i _ n e hkd
    have hu := Tab.arr_ok hE hkd
    have hadd : ∀ b o k : Nat, (⟨b, o, none⟩ : Addr).add k = ⟨b, o + k, none⟩ := fun b o k => by unfold Addr.add; split <;> simp_all
    split at hk
    · rename_i sz g s j ik q hty
      obtain ⟨qn, rfl, h1, hk⟩ := hk
      obtain ⟨inf, d, hi, _, rfl, _, _⟩ := tyI_some (Tab.ty_ok hE hty)
      obtain ⟨hX, _⟩ := hX
      obtain ⟨hI, _⟩ := hI
      cases hI
      cases hX with | @ptr _ _ b hp =>
      refine ⟨_, _, hk, fun w' => ?_, .ptr hp, rfl⟩
      simp [Instr.indexAt, asIntOf, run_underlying hu, Instr.sureAddr, run_sizeOf hi, hadd, h1]
    · rename_i sz g xs j ik q hty
      obtain ⟨qn, rfl, h1, hk⟩ := hk
      obtain ⟨inf, d, hi, _, rfl, _, _⟩ := tyI_some (Tab.ty_ok hE hty)
      obtain ⟨hX, _⟩ := hX
      obtain ⟨hI, _⟩ := hI
      cases hI
      cases hX with | @bptr _ _ b o vals a1 a2 a3 a4 a5 =>
      refine ⟨_, _, hk, fun w' => ?_, .bptr b o vals a1 a2 a3 a4 a5, rfl⟩
      simp [Instr.indexAt, asIntOf, run_underlying hu, Instr.sureAddr, run_sizeOf hi, hadd, h1, Nat.add_assoc]
    · rename_i sz g b j ik q hty
      obtain ⟨qn, rfl, h1, hk⟩ := hk
      obtain ⟨inf, d, hi, _, rfl, _, _⟩ := tyI_some (Tab.ty_ok hE hty)
      obtain ⟨hX, _⟩ := hX
      obtain ⟨hI, _⟩ := hI
      cases hI
      cases hX
      refine ⟨_, _, hk, fun w' => ?_, .lit _, rfl⟩
      simp [Instr.indexAt, asIntOf, run_underlying hu, Instr.sureAddr, run_sizeOf hi, hadd, h1]
    · exact hk.elim
  rename_i e sz by_ he
  replace he := Tab.el_ok hE he
  split at hk
  · rename_i s off len ik q
    obtain ⟨qn, rfl, h1, hk⟩ := hk
    split at hk
    case h_2 => exact hk.elim
    rename_i p rz es hs
    split at hk
    case isFalse => exact hk.elim
    rename_i hrz
    subst hrz
    obtain ⟨hX, _⟩ := hX
    obtain ⟨hI, _⟩ := hI
    cases hI
    cases hX with
    | locnil hn => exact absurd h1 (by simp)
    | @loc _ _ _ b cap sz A hat hle hA =>
      replace hs := h.look hm hat hs
      have hsz : sz = rz := by
        rcases h.mem s _ hs with ⟨h1, _⟩ | ⟨b', cap', h1, _⟩ <;> rw [hat] at h1 <;> cases h1
        rfl
      subst hsz
      have := hA (by omega)
      subst this
      refine ⟨_, _, hk, fun w' => run_indexAt he _ _ _ _ _ _ (by omega) (by omega) w', ?_, rfl⟩
      rw [show off * sz + ((qn : Int)).toNat * sz = (off + qn) * sz + 0 by rw [Nat.add_mul, Int.toNat_natCast]; omega]
      exact .eptr hat
  · rename_i own rz es ik q
    split at hk
    case isFalse => exact hk.elim
    rename_i hrz
    subst hrz
    obtain ⟨qn, rfl, e', he', hk⟩ := hk
    obtain ⟨hX, _⟩ := hX
    obtain ⟨hI, _⟩ := hI
    cases hI
    obtain ⟨V, h1, h2⟩ := rowIndex_all he hX he'
    exact ⟨_, _, hk, h1, h2⟩
  · rename_i A len cap ik q
    obtain ⟨s, o, es, hs, qn, rfl, e', he', hk⟩ := hk
    obtain ⟨hX, _⟩ := hX
    obtain ⟨hI, _⟩ := hI
    cases hI
    cases hX
    obtain ⟨a2, a3, a4⟩ := h.par s _ _ (hm.2 s _ rfl hs)
    obtain ⟨V, h1, h2⟩ := rowIndex_all he (R.free (c' := c) (fun b hb => a4 b hb) (fun b (hb : oldB w0 L b) => h.keeps.block b hb.1 hb.2) a3 a2) he'
    exact ⟨_, _, hk, h1, h2⟩
  · exact hk.elim
theorem opIndexAddr_ok {E : Tab} (hE : E.ok P) (h : H w0 L n σ a w c F) {m : Nat → Option Blk} (hm : Sup σ m) {t : TypeId} {x i : T} {X I : Value} (hX : RT c w x X) (hI : RT c w i I) (hk : opIndexAddr E m K t x i) :
    ∃ v V, K v [] ∧ (Instr.indexAt t X I).run P w = .ok V w ∧ RT c w v V :=
  let ⟨v, V, h1, h2, h3⟩ := opIndexAddr_all hE h hm hX hI hk
  ⟨v, V, h1, h2 w, h3⟩

end
end Go.Proofs.YtjajnladldchcaaDoor
namespace Go.Proofs.YtjajnladldchcaaDoor
open Go.RowKit
set_option linter.unusedSimpArgs false
set_option linter.unusedVariables false

section
variable {P : Program} {w0 w : World} {L : Nat → Prop} {n : Nat} {σ : AS} {a : Act} {c : Ctx} {F : Nat → Nat → Prop} {K : T → News → Prop}

theorem toList_beq (a b : ByteArray) : (a.toList == b.toList) = decide (a = b) := by
  rw [ByteArray.toList_eq, ByteArray.toList_eq]
  rw [Bool.eq_iff_iff]
  simp only [beq_iff_eq, decide_eq_true_eq]
  constructor
  · intro h
    cases a; cases b
    simp at h
    simp [h]
  · rintro rfl; rfl

theorem one_lit {v V : Value} (h : RT c w (.one (.lit v)) V) : V = v := by
  obtain ⟨h, _⟩ := h
  cases h; rfl

theorem RT_lit (v : Value) (h : v.oneCell' = true) : RT c w (.one (.lit v)) v := ⟨.lit v, h⟩

theorem opIndex_ok {E : Tab} (hE : E.ok P) {t : TypeId} {x i : T} {X I : Value} (hX : RT c w x X) (hI : RT c w i I) (hk : opIndex E K t x i) :
    ∃ v V, K v [] ∧ (Instr.index t X I).run P w = .ok V w ∧ RT c w v V := by
  unfold opIndex at hk
  split at hk
  case h_3 => exact hk.elim
  case h_2 =>
    rename_i n e xs ik q hkd
    have hu := Tab.arr_ok hE hkd
    split at hk
    case h_2 => exact hk.elim
    rename_i hty
    obtain ⟨qn, rfl, h1, y, hy, hk⟩ := hk
    obtain ⟨inf, d, hi, hd, hsz, hg, _⟩ := tyI_some (Tab.ty_ok hE hty)
    obtain rfl := one_lit hI
    cases X with
    | agg cs =>
      have hR : RL c w xs cs.toList := hX
      have hlt : qn < cs.size := by have := hR.length; have h2 := (List.getElem?_eq_some_iff.1 hy).1; rw [this] at h2; simpa using h2
      have hv : cs.toList[qn]? = some cs[qn] := by simp [hlt]
      obtain ⟨r1, r2⟩ := hR.at hy hv
      refine ⟨_, cs[qn], hk, ?_, r1.bor, r2⟩
      simp only [Instr.index, asIntOf, run_underlying hu, Sem.run_bind, Sem.run_pure, Result.andThen_ok, run_sizeOf hi, hsz]
      rw [if_pos ⟨by omega, by omega⟩]
      have := run_part (P := P) (Tab.ty_ok hE hty) cs qn (by omega) w
      simp only [Sem.run_bind, run_sizeOf hi, hsz, Result.andThen_ok, Int.toNat_natCast, Nat.mul_one, this]
      rw [List.drop_eq_getElem_cons (by simpa using hlt)]
      simp
    | _ => exact hX.elim
  rename_i s ik m hs
  obtain ⟨qn, rfl, h1, hk⟩ := hk
  obtain rfl := one_lit hX
  obtain rfl := one_lit hI
  have hu : P.underlying t = some .string := Tab.str_ok hE hs
  refine ⟨_, _, hk, ?_, RT_lit _ rfl⟩
  simp [Instr.index, asIntOf, run_underlying hu, h1]
  congr 1

theorem optInt_some {o : Option T} {x : Option Int} (h : optInt o = some x) : (o = none ∧ x = none) ∨ ∃ k n, o = some (.one (.lit (.int k n))) ∧ x = some n := by
  unfold optInt at h
  split at h
  · cases h; exact .inl ⟨rfl, rfl⟩
  · cases h; exact .inr ⟨_, _, rfl, rfl⟩
  · cases h

def ROT (c : Ctx) (w : World) : Option T → Option Value → Prop
  | none, none => True
  | some t, some v => RT c w t v
  | _, _ => False

theorem optInt_val {o : Option T} {x : Option Int} (h : optInt o = some x) {O : Option Value} (hO : ROT c w o O) : (O = none ∧ x = none) ∨ ∃ k n, O = some (.int k n) ∧ x = some n := by
  rcases optInt_some h with ⟨rfl, rfl⟩ | ⟨k, n, rfl, rfl⟩
  · cases O with
    | none => exact .inl ⟨rfl, rfl⟩
    | some v => exact hO.elim
  · cases O with
    | none => exact hO.elim
    | some v => exact .inr ⟨k, n, by rw [one_lit hO], rfl⟩

theorem run_bounds {len cap : Nat} {lo hi : Option Value} {l h : Option Int} (hl : (lo = none ∧ l = none) ∨ ∃ k n, lo = some (.int k n) ∧ l = some n) (hh : (hi = none ∧ h = none) ∨ ∃ k n, hi = some (.int k n) ∧ h = some n)
    (h0 : 0 ≤ l.getD 0) (h1 : l.getD 0 ≤ h.getD len) (h2 : h.getD len ≤ (len : Int)) (hc : len ≤ cap) (g : Bool) (w : World) :
    (Instr.sliceBounds g len cap lo hi none).run P w = .ok ((l.getD 0).toNat, (h.getD len).toNat, cap) w := by
  rcases hl with ⟨rfl, rfl⟩ | ⟨k, m, rfl, rfl⟩ <;> rcases hh with ⟨rfl, rfl⟩ | ⟨k', m', rfl, rfl⟩
  · simp [Instr.sliceBounds]
  · have e1 : (0 : Int) ≤ m' := by simpa using h1
    have e2 : m' ≤ (cap : Int) := by simp at h2; omega
    simp [Instr.sliceBounds, run_sliceBound, e1, e2]
  · have e1 : (0 : Int) ≤ m := by simpa using h0
    have e2 : m ≤ (len : Int) := by simpa using h1
    simp [Instr.sliceBounds, run_sliceBound, e1, e2]
  · have e1 : (0 : Int) ≤ m := by simpa using h0
    have e2 : m ≤ m' := by simpa using h1
    have e3 : m' ≤ (cap : Int) := by simp at h2; omega
    have e4 : (0 : Int) ≤ m' := by omega
    have e5 : m ≤ ((m'.toNat : Nat) : Int) := by omega
    simp only [Instr.sliceBounds, Sem.run_bind, Sem.run_pure, Result.andThen_ok, run_sliceBound w k' m' cap _ e4 e3, Bool.false_eq_true, if_false, Option.isSome_none, run_sliceBound w k m m'.toNat _ e1 e5, Option.getD_some]

theorem opSlice_all {E : Tab} (hE : E.ok P) (h : H w0 L n σ a w c F) {m : Nat → Option Blk} (hm : Sup σ m) {t : TypeId} {x : T} {lo hi : Option T} {X : Value} {LO HI : Option Value} (hX : RT c w x X) (hlo : ROT c w lo LO) (hhi : ROT c w hi HI) (hk : opSlice E m K t x lo hi) :
    ∃ v V, K v [] ∧ (∀ w' : World, (Instr.sliceAt t X LO HI none).run P w' = .ok V w') ∧ RT c w v V := by
  unfold opSlice at hk
  split at hk
  case h_2 => exact hk.elim
  rename_i l hh hl1 hh1
  have hl2 := optInt_val hl1 hlo
  have hh2 := optInt_val hh1 hhi
  split at hk
  · rename_i hs
    have hu : P.underlying t = some .string := Tab.str_ok hE hs
    split at hk
    case h_2 => exact hk.elim
    rename_i s
    obtain ⟨h0, h1, h2, _, rfl, hk⟩ := hk
    obtain rfl := one_lit hX
    refine ⟨_, _, hk, ?_, RT_lit _ rfl⟩
    intro w'
    simp [run_sliceAt_string, hu, Instr.slice, run_underlying hu, run_bounds hl2 hh2 h0 h1 h2 (Nat.le_refl _)]
  · split at hk
    case h_2 => exact hk.elim
    rename_i e sz by_ he
    replace he := Tab.el_ok hE he
    obtain ⟨inf, hu, hi', rfl, _, hne⟩ := elI_some he
    have hsl : ∀ (lo hi mx : Option Value) (X : Value) (w' : World), (Instr.sliceAt t X lo hi mx).run P w' = (Instr.slice t X lo hi mx).run P w' := fun lo hi mx X w' => by simp [Instr.sliceAt, run_underlying hu]
    split at hk
    · rename_i s off len
      obtain ⟨h0, h1, h2, hk⟩ := hk
      split at hk
      case h_2 => exact hk.elim
      rename_i p rz es hs
      split at hk
      case isFalse => exact hk.elim
      rename_i hrz
      subst hrz
      obtain ⟨_, _, rfl, rfl, hk⟩ := hk
      obtain ⟨hX, _⟩ := hX
      cases hX with
      | locnil hn =>
        have e1 : l.getD 0 = 0 := by simp at h1 h2; omega
        have e2 : hh.getD ((0 : Nat) : Int) = 0 := by simp at h1 h2 ⊢; omega
        refine ⟨_, .slice none 0 0, hk, ?_, ?_⟩
        · intro w'
          rw [hsl]
          have e3 : hh.getD 0 = 0 := e2
          simp [Instr.slice, run_underlying hu, run_bounds hl2 hh2 h0 h1 h2 (Nat.le_refl _), run_sizeOf hi', e1, e3]
        · rw [e1, e2]
          exact ⟨.locnil hn, rfl⟩
      | @loc _ _ _ b cap sz A hat hle hA =>
        have hb := h.mem s _ (h.look hm hat hs)
        have hsz : sz = inf.size := by
          rcases hb with ⟨h1, _⟩ | ⟨b', cap', h1, _⟩ <;> rw [hat] at h1 <;> cases h1
          rfl
        subst hsz
        have e1 : ((l.getD 0).toNat : Int) = l.getD 0 := Int.toNat_of_nonneg h0
        have e2 : ((hh.getD (len : Int)).toNat : Int) = hh.getD (len : Int) := Int.toNat_of_nonneg (by omega)
        refine ⟨_, .slice (if cap - off = (l.getD 0).toNat then A else A.map (·.add ((l.getD 0).toNat * inf.size))) ((hh.getD (len : Int)).toNat - (l.getD 0).toNat) (cap - off - (l.getD 0).toNat), hk, ?_, ?_⟩
        · intro w'
          rw [hsl]
          simp only [Instr.slice, Sem.run_bind, run_underlying hu, Result.andThen_ok, run_bounds (cap := cap - off) hl2 hh2 h0 h1 h2 (by omega), run_sizeOf hi', Sem.run_pure]
        · refine ⟨?_, rfl⟩
          rw [show cap - off - (l.getD 0).toNat = cap - (off + (l.getD 0).toNat) by omega]
          refine .loc hat (by omega) fun hlt => ?_
          rw [if_neg (by omega)]
          rw [hA (by omega)]
          have hadd : (⟨b, off * inf.size, none⟩ : Addr).add ((l.getD 0).toNat * inf.size) = ⟨b, (off + (l.getD 0).toNat) * inf.size, none⟩ := by
            rw [Nat.add_mul]; unfold Addr.add; split <;> simp_all
          simp [hadd]
    · rename_i own rz es
      obtain ⟨h0, h1, h2, hk⟩ := hk
      split at hk
      case isFalse => exact hk.elim
      rename_i hrz
      subst hrz
      obtain ⟨_, rfl, hk⟩ := hk
      obtain ⟨hX, _⟩ := hX
      cases hX with
      | @row _ _ _ A cap b o vals a1 a2 a3 a4 a0 a5 a6 a7 =>
        have e1 : ((l.getD 0).toNat : Int) = l.getD 0 := Int.toNat_of_nonneg h0
        have e2 : ((hh.getD (es.length : Int)).toNat : Int) = hh.getD (es.length : Int) := Int.toNat_of_nonneg (by omega)
        refine ⟨_, .slice (if cap = (l.getD 0).toNat then A else A.map (·.add ((l.getD 0).toNat * inf.size))) ((hh.getD (es.length : Int)).toNat - (l.getD 0).toNat) (cap - (l.getD 0).toNat), hk, ?_, ?_⟩
        · intro w'
          rw [hsl]
          simp only [Instr.slice, Sem.run_bind, run_underlying hu, Result.andThen_ok, run_bounds (cap := cap) hl2 hh2 h0 h1 h2 a1, run_sizeOf hi', Sem.run_pure]
        · refine ⟨?_, rfl⟩
          have hel : ∀ (i j : Nat) (x : AV), elt (List.take ((hh.getD (es.length : Int)).toNat - (l.getD 0).toNat) (List.drop (l.getD 0).toNat es)) i j = some x → elt es ((l.getD 0).toNat + i) j = some x := fun i j x hx => by
            unfold elt at hx ⊢
            rw [List.getElem?_take] at hx
            split at hx
            · rwa [List.getElem?_drop] at hx
            · simp at hx
          have hlen : (hh.getD (es.length : Int)).toNat - (l.getD 0).toNat = (List.take ((hh.getD (es.length : Int)).toNat - (l.getD 0).toNat) (List.drop (l.getD 0).toNat es)).length := by
            rw [List.length_take, List.length_drop]; omega
          have key := R.row (c := c) (w := w) (own := false) (sz := inf.size) (es := List.take ((hh.getD (es.length : Int)).toNat - (l.getD 0).toNat) (List.drop (l.getD 0).toNat es)) (A := if cap = (l.getD 0).toNat then A else A.map (·.add ((l.getD 0).toNat * inf.size))) (cap := cap - (l.getD 0).toNat) b (o + (l.getD 0).toNat * inf.size) (fun i j => vals ((l.getD 0).toNat + i) j)
            (by rw [← hlen]; omega) (by omega) (fun hlt => by
              rw [← hlen] at hlt
              obtain ⟨rfl, hI⟩ := a3 (by omega)
              refine ⟨?_, hI⟩
              rw [if_neg (by omega)]
              exact congrArg some (Addr.add_lit b o _)) (fun e he => a4 e (List.mem_of_mem_drop (List.mem_of_mem_take he))) (fun i j x hx => a0 _ _ _ (hel i j x hx))
            (fun i j x hx => by have := a5 _ _ _ (hel i j x hx); rw [Nat.add_mul] at this; rw [← this]; congr 2; omega) (fun i j x hx => a6 _ _ _ (hel i j x hx)) (fun i j x hx => a7 _ _ _ (hel i j x hx))
          rw [← hlen] at key
          exact key
    · rename_i A len cap
      obtain ⟨h0, h1, h2, h3, V, rfl, hk⟩ := hk
      obtain rfl := one_lit hX
      refine ⟨_, _, hk, fun w' => ?_, RT_lit _ rfl⟩
      rw [hsl]
      simp only [Instr.slice, Sem.run_bind, run_underlying hu, Result.andThen_ok, run_bounds (cap := cap) hl2 hh2 h0 h1 h2 h3, run_sizeOf hi', Sem.run_pure]
    · exact hk.elim
  · exact hk.elim
theorem opSlice_ok {E : Tab} (hE : E.ok P) (h : H w0 L n σ a w c F) {m : Nat → Option Blk} (hm : Sup σ m) {t : TypeId} {x : T} {lo hi : Option T} {X : Value} {LO HI : Option Value} (hX : RT c w x X) (hlo : ROT c w lo LO) (hhi : ROT c w hi HI) (hk : opSlice E m K t x lo hi) :
    ∃ v V, K v [] ∧ (Instr.sliceAt t X LO HI none).run P w = .ok V w ∧ RT c w v V :=
  let ⟨v, V, h1, h2, h3⟩ := opSlice_all hE h hm hX hlo hhi hk
  ⟨v, V, h1, h2 w, h3⟩

theorem opBin_all {E : Tab} (hE : E.ok P) {op : BinOp} {t : TypeId} {x y : T} {X Y : Value} (hX : RT c w x X) (hY : RT c w y Y) (hk : opBin E K op t x y) :
    ∃ v V, K v [] ∧ (∀ w' : World, (binOp op t X Y).run P w' = .ok V w') ∧ RT c w v V := by
  unfold opBin at hk
  split at hk
  · obtain rfl := one_lit hX
    obtain rfl := one_lit hY
    split at hk
    · obtain ⟨h0, _, rfl, hk⟩ := hk
      have h0 := Int.not_lt.2 h0
      exact ⟨_, _, hk, fun w' => by simp [binOp, Op.shift, h0], RT_lit _ rfl⟩
    · obtain ⟨h0, _, rfl, hk⟩ := hk
      have h0 := Int.not_lt.2 h0
      exact ⟨_, _, hk, fun w' => by simp [binOp, Op.shift, h0], RT_lit _ rfl⟩
    split at hk
    case isFalse => exact hk.elim
    rename_i hkk
    subst hkk
    split at hk
    · obtain ⟨_, rfl, hk⟩ := hk; exact ⟨_, _, hk, fun w' => by simp [binOp, Op.intArith], RT_lit _ rfl⟩
    · obtain ⟨_, rfl, hk⟩ := hk; exact ⟨_, _, hk, fun w' => by simp [binOp, Op.intArith], RT_lit _ rfl⟩
    · obtain ⟨_, rfl, hk⟩ := hk; exact ⟨_, _, hk, fun w' => by simp [binOp, Op.intArith], RT_lit _ rfl⟩
    · obtain ⟨h0, _, rfl, hk⟩ := hk; exact ⟨_, _, hk, fun w' => by simp [binOp, Op.intDiv, h0], RT_lit _ rfl⟩
    · obtain ⟨h0, _, rfl, hk⟩ := hk; exact ⟨_, _, hk, fun w' => by simp [binOp, Op.intDiv, h0], RT_lit _ rfl⟩
    all_goals (try exact hk.elim)
    all_goals (refine ⟨_, _, hk, ?_, RT_lit _ rfl⟩; intro w')
    all_goals first
      | (simp [binOp, Op.intArith]; done)
      | (simp [binOp, Op.intBits, bits]; done)
      | (simp [binOp, Op.intCmp]; done)
      | (simp only [binOp, Op.intCmp, ne_eq, not_true_eq_false, if_false, Sem.run_pure]; congr 2; (try rfl); (try (rw [Bool.eq_iff_iff]; simp)))
  · obtain rfl := one_lit hX
    obtain rfl := one_lit hY
    split at hk
    · obtain ⟨h0, hk⟩ := hk
      exact ⟨_, _, hk, fun w' => by simp only [binOp]; exact run_string_add_sum w' _ _ h0, RT_lit _ rfl⟩
    all_goals first
      | exact hk.elim
      | (refine ⟨_, _, hk, ?_, RT_lit _ rfl⟩; intro w'; simp [binOp, Op.stringOp, toList_beq, sless]; done)
  · obtain rfl := one_lit hY
    obtain ⟨hX, _⟩ := hX
    cases hX with | nn hX =>
    split at hk
    · rename_i hs; obtain ⟨e, hu⟩ := Tab.sl_ok hE hs
      exact ⟨_, _, hk, fun w' => by rw [Go.Lib.run_eql_slice_nil w' t e _ _ _ _ _ hu]; rfl, RT_lit _ rfl⟩
    · rename_i hs; obtain ⟨e, hu⟩ := Tab.sl_ok hE hs
      exact ⟨_, _, hk, fun w' => by rw [run_neq_slice_nil w' t e _ _ _ hu]; rfl, RT_lit _ rfl⟩
    · exact hk.elim
  · obtain rfl := one_lit hX
    obtain rfl := one_lit hY
    split at hk
    · rename_i hs; obtain ⟨e, hu⟩ := Tab.sl_ok hE hs
      exact ⟨_, _, hk, fun w' => by rw [Go.Lib.run_eql_slice_nil w' t e _ _ _ _ _ hu]; rfl, RT_lit _ rfl⟩
    · rename_i hs; obtain ⟨e, hu⟩ := Tab.sl_ok hE hs
      exact ⟨_, _, hk, fun w' => by rw [run_neq_slice_nil w' t e _ _ _ hu]; rfl, RT_lit _ rfl⟩
    · exact hk.elim
  · obtain rfl := one_lit hX
    obtain rfl := one_lit hY
    split at hk
    case h_2 => exact hk.elim
    rename_i hu
    replace hu := Tab.bool_ok hE hu
    split at hk
    · exact ⟨_, _, hk, fun w' => run_eql_bool w' t _ _ hu, RT_lit _ rfl⟩
    · exact ⟨_, _, hk, fun w' => run_neq_bool w' t _ _ hu, RT_lit _ rfl⟩
    · exact hk.elim
  · exact hk.elim

theorem opBin_ok {E : Tab} (hE : E.ok P) {op : BinOp} {t : TypeId} {x y : T} {X Y : Value} (hX : RT c w x X) (hY : RT c w y Y) (hk : opBin E K op t x y) :
    ∃ v V, K v [] ∧ (binOp op t X Y).run P w = .ok V w ∧ RT c w v V :=
  let ⟨v, V, h1, h2, h3⟩ := opBin_all hE hX hY hk
  ⟨v, V, h1, h2 w, h3⟩

theorem opUn_all {op : UnOp} {x : T} {X : Value} (hX : RT c w x X) (hk : opUn K op x) :
    ∃ v V, K v [] ∧ (∀ w' : World, (Op.unary op X).run P w' = .ok V w') ∧ RT c w v V := by
  unfold opUn at hk
  split at hk
  · obtain rfl := one_lit hX
    exact ⟨_, _, hk, fun w' => rfl, RT_lit _ rfl⟩
  · obtain rfl := one_lit hX
    obtain ⟨_, rfl, hk⟩ := hk
    exact ⟨_, _, hk, fun w' => rfl, RT_lit _ rfl⟩
  · obtain rfl := one_lit hX
    exact ⟨_, _, hk, fun w' => rfl, RT_lit _ rfl⟩
  · exact hk.elim

theorem opUn_ok {op : UnOp} {x : T} {X : Value} (hX : RT c w x X) (hk : opUn K op x) :
    ∃ v V, K v [] ∧ (Op.unary op X).run P w = .ok V w ∧ RT c w v V :=
  let ⟨v, V, h1, h2, h3⟩ := opUn_all hX hk
  ⟨v, V, h1, h2 w, h3⟩

theorem opConv_ok {E : Tab} (hE : E.ok P) {src dst : TypeId} {x : T} {X : Value} (hX : RT c w x X) (hk : opConv E K src dst x) :
    ∃ v V, K v [] ∧ (convert src dst X).run P w = .ok V w ∧ RT c w v V := by
  unfold opConv at hk
  split at hk
  · obtain rfl := one_lit hX
    split at hk
    case h_2 => exact hk.elim
    rename_i k _ hi hs
    obtain ⟨_, rfl, hk⟩ := hk
    have hu : P.underlying dst = some (.int k) := Tab.int_ok hE hi
    replace hs := Tab.some_ok hE hs
    obtain ⟨d, hd'⟩ := Option.isSome_iff_exists.mp hs
    exact ⟨_, _, hk, by simp [convert, run_underlying hd', run_underlying hu, Conv.intToInt], RT_lit _ rfl⟩
  · obtain rfl := one_lit hX
    split at hk
    case h_2 => exact hk.elim
    rename_i _ hi hs
    have hu : P.underlying dst = some .string := Tab.str_ok hE hi
    replace hs := Tab.some_ok hE hs
    obtain ⟨d, hd'⟩ := Option.isSome_iff_exists.mp hs
    exact ⟨_, _, hk, by simp [convert, run_underlying hd', run_underlying hu], RT_lit _ rfl⟩
  · exact hk.elim

theorem opExtract_all {i : Nat} {x : T} {X : Value} (hX : RT c w x X) (hk : opExtract K x i) :
    ∃ v V, K v [] ∧ (∀ w' : World, (Instr.extract X i).run P w' = .ok V w') ∧ RT c w v V := by
  unfold opExtract at hk
  split at hk
  case h_2 => exact hk.elim
  rename_i ts
  cases X with
  | tuple vs =>
    have hR : RTs c w ts vs.toList := hX
    have key : ∀ (ts : List (Bool × List AV)) (vs : List Value), RTs c w ts vs → ∀ i : Nat, (∀ y, ts[i]? = some (false, [y]) → ∃ v, vs[i]? = some v ∧ R c w y v ∧ v.oneCell' = true) ∧ (∀ ys, ts[i]? = some (true, ys) → ∃ us : Array Value, vs[i]? = some (Value.agg us) ∧ RL c w ys us.toList) := by
      intro ts
      induction ts with
      | nil => intro vs _ i; simp
      | cons t ts ih =>
        intro vs h i
        match t, vs, h with
        | (false, [x]), v :: vs, h =>
          cases i with
          | zero => exact ⟨fun y hy => by simp at hy; subst hy; exact ⟨v, rfl, h.1⟩, fun ys hy => by simp at hy⟩
          | succ i => simpa using ih vs h.2 i
        | (true, ys), .agg us :: vs, h =>
          cases i with
          | zero => exact ⟨fun y hy => by simp at hy, fun ys' hy => by simp at hy; subst hy; exact ⟨us, rfl, h.1⟩⟩
          | succ i => simpa using ih vs h.2 i
    split at hk
    · rename_i y hy
      obtain ⟨v, hv, h1⟩ := (key ts _ hR i).1 y hy
      have hv' : vs[i]? = some v := by simpa using hv
      exact ⟨_, _, hk, fun w' => by simp [Instr.extract, hv'], h1⟩
    · rename_i ys hy
      obtain ⟨v, hv, h1⟩ := (key ts _ hR i).2 ys hy
      have hv' : vs[i]? = some (.agg v) := by simpa using hv
      exact ⟨_, .agg v, hk, fun w' => by simp [Instr.extract, hv'], h1⟩
    · exact hk.elim
  | _ => exact hX.elim

theorem opExtract_ok {i : Nat} {x : T} {X : Value} (hX : RT c w x X) (hk : opExtract K x i) :
    ∃ v V, K v [] ∧ (Instr.extract X i).run P w = .ok V w ∧ RT c w v V :=
  let ⟨v, V, h1, h2, h3⟩ := opExtract_all hX hk
  ⟨v, V, h1, h2 w, h3⟩

theorem opLen_all {E : Tab} (hE : E.ok P) {t ty : TypeId} {x : T} {X : Value} (hX : RT c w x X) (hk : opLen E K t x) :
    ∃ v V, K v [] ∧ (∀ w' : World, (Builtin.len_ #[t] ty #[X]).run P w' = .ok V w') ∧ RT c w v V := by
  unfold opLen at hk
  split at hk
  · rename_i hi
    obtain rfl := one_lit hX
    have hu := Tab.str_ok hE hi
    exact ⟨_, _, hk, fun w' => by simp [Builtin.len_, run_underlying hu, goInt], RT_lit _ rfl⟩
  · rename_i hi
    obtain ⟨e, hu⟩ := Tab.sl_ok hE hi
    obtain ⟨hX, _⟩ := hX
    cases hX with
    | loc => exact ⟨_, _, hk, fun w' => by simp [Builtin.len_, run_underlying hu, goInt], RT_lit _ rfl⟩
    | locnil => exact ⟨_, _, hk, fun w' => by simp [Builtin.len_, run_underlying hu, goInt], RT_lit _ rfl⟩
  · rename_i hi
    obtain ⟨e, hu⟩ := Tab.sl_ok hE hi
    obtain ⟨hX, _⟩ := hX
    cases hX with
    | row => exact ⟨_, _, hk, fun w' => by simp [Builtin.len_, run_underlying hu, goInt], RT_lit _ rfl⟩
  · rename_i hi
    obtain ⟨e, hu⟩ := Tab.sl_ok hE hi
    obtain ⟨hX, _⟩ := hX
    cases hX with | nn hX =>
    cases hX with
    | row => exact ⟨_, _, hk, fun w' => by simp [Builtin.len_, run_underlying hu, goInt], RT_lit _ rfl⟩
  · rename_i hi
    obtain ⟨e, hu⟩ := Tab.sl_ok hE hi
    obtain rfl := one_lit hX
    exact ⟨_, _, hk, fun w' => by simp [Builtin.len_, run_underlying hu, goInt], RT_lit _ rfl⟩
  · exact hk.elim

theorem opLen_ok {E : Tab} (hE : E.ok P) {t ty : TypeId} {x : T} {X : Value} (hX : RT c w x X) (hk : opLen E K t x) :
    ∃ v V, K v [] ∧ (Builtin.len_ #[t] ty #[X]).run P w = .ok V w ∧ RT c w v V :=
  let ⟨v, V, h1, h2, h3⟩ := opLen_all hE hX hk
  ⟨v, V, h1, h2 w, h3⟩

theorem opMinMax_ok {mx : Bool} {x y : T} {ts : Array TypeId} {ty : TypeId} {X Y : Value} (hX : RT c w x X) (hY : RT c w y Y) (hk : opMinMax K mx x y) :
    ∃ v V, K v [] ∧ (if mx then Builtin.max_ ts ty #[X, Y] else Builtin.min_ ts ty #[X, Y]).run P w = .ok V w ∧ RT c w v V := by
  unfold opMinMax at hk
  split at hk
  case h_2 => exact hk.elim
  obtain rfl := one_lit hX
  obtain rfl := one_lit hY
  cases mx with
  | true =>
    refine ⟨_, _, hk, ?_, RT_lit _ rfl⟩
    simp only [if_true, run_max_int2]
    congr 2
    omega
  | false =>
    refine ⟨_, _, hk, ?_, RT_lit _ rfl⟩
    simp only [Bool.false_eq_true, if_false, run_min_int2]
    congr 2
    omega

theorem opNilCheck_ok {x : T} {X : Value} (hX : RT c w x X) (hk : opNilCheck K x) : ∃ v, K v [] ∧ RT c w v X ∧ ((∃ p, X = .pointer (some p)) ∨ ∃ f cs, X = .func (.func f) #[] cs) := by
  unfold opNilCheck at hk
  split at hk
  · exact ⟨_, hk, hX, by obtain ⟨hX, _⟩ := hX; cases hX; exact .inl ⟨_, rfl⟩⟩
  · exact ⟨_, hk, hX, by obtain ⟨hX, _⟩ := hX; cases hX; exact .inl ⟨_, rfl⟩⟩
  · exact ⟨_, hk, hX, by obtain ⟨hX, _⟩ := hX; cases hX; exact .inl ⟨_, rfl⟩⟩
  · exact ⟨_, hk, hX, by obtain ⟨hX, _⟩ := hX; cases hX; exact .inr ⟨_, _, rfl⟩⟩
  · exact hk.elim

def RTL (c : Ctx) (w : World) : List T → List Value → Prop
  | [], [] => True
  | t :: ts, v :: vs => RT c w t v ∧ RTL c w ts vs
  | _, _ => False

theorem ones_ok : ∀ {ts : List T} {vs : List Value} {xs : List AV}, RTL c w ts vs → ones ts = some xs → RL c w xs vs
  | [], [], _, _, h => by simp [ones] at h; subst h; trivial
  | .one x :: ts, v :: vs, xs, hR, h => by
    simp only [ones] at h
    cases ho : ones ts with
    | none => simp [ho] at h
    | some ys => simp [ho] at h; subst h; exact ⟨hR.1, ones_ok hR.2 ho⟩

theorem RL.ones : ∀ {xs : List AV} {vs : List Value}, RL c w xs vs → ∀ v ∈ vs, v.oneCell' = true
  | [], [], _, v, hv => by cases hv
  | _ :: _, _ :: _, h, v, hv => by
    cases hv with
    | head => exact h.1.2
    | tail _ hv => exact RL.ones h.2 v hv
theorem opMakeFunc_ok {fn : Fn} {ts : List T} {cs : List Value} (hX : RTL c w ts cs) {k : Nat} (hk : opMakeFunc K fn k ts) :
    ∃ v f, K v [] ∧ k = 0 ∧ fn = .func f ∧ RT c w v (.func (.func f) #[] cs.toArray) := by
  unfold opMakeFunc at hk
  split at hk
  case h_2 => exact hk.elim
  rename_i f xs hx
  have hR := ones_ok hX hx
  refine ⟨_, f, hk, rfl, rfl, .fn (by simp [hR.length]) (fun v hv => hR.ones v (by simpa using hv)) (fun i x v hx hv => (hR.at hx (by simpa using hv)).1), rfl⟩
end
end Go.Proofs.YtjajnladldchcaaDoor
namespace Go.Proofs.YtjajnladldchcaaDoor
open Go.RowKit
set_option linter.unusedSimpArgs false
set_option linter.unusedVariables false

section
variable {P : Program} {w0 w : World} {L : Nat → Prop} {n : Nat} {σ : AS} {a : Act} {c : Ctx} {F : Nat → Nat → Prop} {K : T → News → Prop}

theorem zrI_some {t : TypeId} {zs : List Value} (h : zrI P t = some zs) : ∃ i z, P.info? t = some i ∧ i.zero = some z ∧ z.cells.toList = zs ∧ zs.all (·.oneCell') = true := by
  unfold zrI at h
  split at h
  · rename_i i hi
    split at h
    · rename_i z hz
      split at h
      · rename_i ho; cases h; exact ⟨i, z, hi, hz, rfl, ho⟩
      · cases h
    · cases h
  · cases h

theorem opAlloc_ok {E : Tab} (hE : E.ok P) (h : H w0 L n σ a w c F) {site : Nat} {t : TypeId} (hk : opAlloc E K site t) :
    ∃ v news, K v news ∧ (Fresh σ.mem news → ∃ V w', (Instr.alloc t true undef).run P w = .ok V w' ∧ Post w0 L n σ a news v V w') := by
  unfold opAlloc at hk
  split at hk
  case h_2 => exact hk.elim
  rename_i zs hz
  obtain ⟨i, z, hi, hzz, rfl, hall⟩ := zrI_some (Tab.zr_ok hE hz)
  refine ⟨_, _, hk, fun hf => ?_⟩
  have hs := hf _ (List.mem_singleton.2 rfl)
  obtain ⟨c', F', hH, hat⟩ := h.newVar (C := z.cells) (e := t) hs (RL.lits c w _ hall)
  exact ⟨.pointer (some ⟨w.heap.size, 0, none⟩), _, by simp [Instr.alloc, zeroValue, typeInfo, hi, hzz, newVar, newRow, undef], c', F', hH, .ptr hat, rfl⟩

theorem RT_cells {x : T} {X : Value} {xs : List AV} (h : x.cells = some xs) (hX : RT c w x X) : RL c w xs X.cells.toList := by
  cases x with
  | one y =>
    simp [T.cells] at h; subst h
    obtain ⟨h1, h2⟩ := hX
    cases X <;> first | exact ⟨⟨h1, h2⟩, trivial⟩ | simp [Value.oneCell'] at h2
  | agg ys =>
    simp [T.cells] at h; subst h
    cases X <;> first | exact hX | exact hX.elim
  | dead => simp [T.cells] at h
  | tup => simp [T.cells] at h

theorem opBox_ok (h : H w0 L n σ a w c F) {site : Nat} {t : TypeId} {x : T} {X : Value} (hX : RT c w x X) (hk : opBox K site x) :
    ∃ v news, K v news ∧ (Fresh σ.mem news → ∃ V w', (Instr.box t X).run P w = .ok V w' ∧ Post w0 L n σ a news v V w') := by
  unfold opBox at hk
  split at hk
  case h_2 => exact hk.elim
  rename_i xs hx
  refine ⟨_, _, hk, fun hf => ?_⟩
  have hs := hf _ (List.mem_singleton.2 rfl)
  obtain ⟨c', F', hH, hat⟩ := h.newVar (C := X.cells) (e := t) hs (RT_cells hx hX)
  exact ⟨.pointer (some ⟨w.heap.size, 0, none⟩), _, by simp [Instr.box, newVar, newRow], c', F', hH, .ptr hat, rfl⟩

theorem H.newRow (h : H w0 L n σ a w c F) {w1 : World} (hb : Bel w.heap.size w w1) {s : Nat} (hs : σ.mem s = none) {p : Bool} {sz cap : Nat} {es : List (List AV)} {C : Array Value} {e : TypeId} {fz : Nat × Nat} {b : Nat}
    (hnew : w.heap.size ≤ b) (hC : w1.heap[b]? = some (.cells C e fz)) (hfz : Unfz sz C fz) (hcap : es.length ≤ cap) (hm : cap ≤ maxLen) (hsz : C.size = cap * sz) (hel : ∀ e ∈ es, e.length = sz)
    (hR : ∀ (i j : Nat) (x : AV) (v : Value), elt es i j = some x → C[i * sz + j]? = some v → (R c w x v ∧ v.oneCell' = true) ∧ (p = true → x.isData = true) ∧ (x.isCell = true → x.isData = true)) :
    ∃ c' F', H w0 L n (σ.add s (.row p sz es)) a w1 c' F' ∧ c'.at_ s = some (.row b cap sz) := by
  have hd := h.dom s hs
  refine ⟨_, _, h.addSite (i := .row b cap sz) (G := fun k => k = b) hb hs (fun k hk => by
    subst hk
    exact ⟨hnew, (Array.getElem?_eq_some_iff.1 hC).1⟩) ?_, by simp [Ctx.add]⟩
  obtain ⟨e1, e2⟩ := Ctx.add_ext hd.1 (.row b cap sz) (fun k => (fun k => k = b) k ∧ ¬ (SI.row b cap sz).isTop k)
  have hR' : ∀ (i j : Nat) (x : AV) (v : Value), elt es i j = some x → C[i * sz + j]? = some v → R (c.add s (.row b cap sz) (fun k => (fun k => k = b) k ∧ ¬ (SI.row b cap sz).isTop k)) w1 x v := fun i j x v hx hv =>
    (hR i j x v hx hv).1.1.mono e1 e2 (fun b hI => hb.block b (h.imm b hI))
  refine .inr ⟨b, cap, by simp [Ctx.add], C, e, fz, fun _ _ _ => False, hC, hfz, hcap, hm, hsz, hel, fun i j x v hx hv => (hR i j x v hx hv).1.2, fun i j x v hx hv => ?_, fun _ _ h => h, fun _ _ _ _ _ h => h.elim, fun _ _ _ h => h.elim, fun k => by simp⟩
  cases hd : x.isCell with
  | true => exact .inl (.plain ((hR i j x v hx hv).2.2 hd) (hR' i j x v hx hv) (fun _ h => h))
  | false =>
    cases p with
    | true =>
      have := (hR i j x v hx hv).2.1 rfl
      cases x <;> simp_all [AV.isData, AV.isCell]
    | false => exact .inr ⟨rfl, fun _ h => h, hR' i j x v hx hv, by first | exact hd | rfl⟩

theorem elt_replicate {k : Nat} {e : List AV} {i j : Nat} {x : AV} (h : elt (List.replicate k e) i j = some x) : i < k ∧ e[j]? = some x := by
  unfold elt at h
  rw [List.getElem?_replicate] at h
  split at h
  · exact ⟨by assumption, by simpa using h⟩
  · simp at h

theorem opMakeSlice_ok {E : Tab} (hE : E.ok P) (h : H w0 L n σ a w c F) {site : Nat} {t : TypeId} {l k : T} {X Y : Value} (hX : RT c w l X) (hY : RT c w k Y) (hk : opMakeSlice E K site t l k) :
    ∃ v news, K v news ∧ (Fresh σ.mem news → ∃ V w', (Instr.makeSlice t X Y).run P w = .ok V w' ∧ Post w0 L n σ a news v V w') := by
  unfold opMakeSlice at hk
  split at hk
  case h_2 => exact hk.elim
  rename_i e sz by_ kl l kc m he
  split at hk
  case h_2 => exact hk.elim
  rename_i zs hz
  split at hk
  case isFalse => exact hk.elim
  rename_i hzs
  obtain ⟨ln, rfl, h1, h2, h3, hk⟩ := hk
  have h0 : (0 : Int) ≤ (ln : Int) := Int.natCast_nonneg ln
  obtain ⟨inf, hu, hi, rfl, rfl, hne⟩ := elI_some (Tab.el_ok hE he)
  obtain ⟨i, z, hi', hzz, rfl, hall⟩ := zrI_some (Tab.zr_ok hE hz)
  rw [hi] at hi'; cases hi'
  obtain rfl := one_lit hX
  obtain rfl := one_lit hY
  refine ⟨_, _, hk, fun hf => ?_⟩
  have hs := hf _ (List.mem_singleton.2 rfl)
  have hrun := run_make (P := P) w t e inf z hu hi hzz kl kc ln m h0 h1 h2 (by have : maxLen ≤ 9223372036854775807 := (by decide); omega)
  have hmc : (madeCells z.cells (m.toNat * inf.size)).size = m.toNat * inf.size := by simp [madeCells]
  have hzsz : z.cells.size = inf.size := by simpa using hzs
  obtain ⟨c', F', hH, hat⟩ := h.newRow (w1 := w.alloc (.cells (madeCells z.cells (m.toNat * inf.size)) e)) ((Bel.refl _ _).alloc (Nat.le_refl _) _) hs (p := true) (sz := inf.size) (cap := m.toNat)
    (es := List.replicate ln (z.cells.toList.map .lit)) (b := w.heap.size) (Nat.le_refl _) (heap_alloc_new w _) (fun i _ => by simp) (by simp; omega) (by omega) hmc (fun e' he' => by rw [List.eq_of_mem_replicate he']; simpa using hzs) (fun i j x v hx hv => by
      obtain ⟨hi1, hx⟩ := elt_replicate hx
      rw [List.getElem?_map] at hx
      cases hzj : z.cells.toList[j]? with
      | none => simp [hzj] at hx
      | some u =>
        simp [hzj] at hx
        subst hx
        have hj : j < inf.size := by have := (List.getElem?_eq_some_iff.1 hzj).1; rw [hzs] at this; exact this
        have hlt : i * inf.size + j < m.toNat * inf.size := fit_lt hi1 hj (by omega)
        have hvu : v = u := by
          have hj' : j < z.cells.size := by omega
          have hmod : (i * inf.size + j) % z.cells.size = j := by rw [hzsz, Nat.add_comm, Nat.add_mul_mod_self_right, Nat.mod_eq_of_lt hj]
          have h7 : (madeCells z.cells (m.toNat * inf.size))[i * inf.size + j]? = some z.cells[j] := by
            simp [madeCells, hlt, hmod, hj']
          rw [h7] at hv
          have := (List.getElem?_eq_some_iff.1 hzj).2
          cases hv
          simpa using this
        subst hvu
        exact ⟨⟨.lit v, List.all_eq_true.1 hall _ (List.mem_of_getElem? hzj)⟩, fun _ => rfl, fun _ => rfl⟩)
  refine ⟨_, _, hrun, c', F', hH, ?_, rfl⟩
  have := R.loc (c := c') (w := w.alloc (.cells (madeCells z.cells (m.toNat * inf.size)) e)) (off := 0) (len := ln) (A := some ⟨w.heap.size, 0, none⟩) hat (by omega) (fun _ => by simp)
  simpa using this

theorem foldl_set (ys : List Value) : ∀ (C : Array Value) (o k : Nat), o + k + ys.length ≤ C.size →
    ((ys.zipIdx k).foldl (fun cs (x : Value × Nat) => cs.setIfInBounds (o + x.2) x.1) C).toList = C.toList.take (o + k) ++ ys ++ C.toList.drop (o + k + ys.length) := by
  induction ys with
  | nil => intro C o k h; simp
  | cons y ys ih =>
    intro C o k h
    simp only [List.zipIdx_cons, List.foldl_cons]
    rw [ih _ o (k + 1) (by simp at h ⊢; omega)]
    have := list_seg_step C.toList (o + k) y ys (by simp at h ⊢; omega)
    simpa [Array.toList_setIfInBounds, Nat.add_assoc, Nat.add_comm 1] using this

theorem RL.append : ∀ {xs ys : List AV} {vs us : List Value}, RL c w xs vs → RL c w ys us → RL c w (xs ++ ys) (vs ++ us)
  | [], _, [], _, _, h => h
  | _ :: _, _, _ :: _, _, h, k => ⟨h.1, RL.append h.2 k⟩

def RTN (c : Ctx) (w : World) : List (Nat × T) → List (Nat × Value) → Prop
  | [], [] => True
  | (i, t) :: ts, (j, v) :: vs => i = j ∧ RT c w t v ∧ RTN c w ts vs
  | _, _ => False

theorem fill_ok {place : Nat → Option (Nat × Nat)} : ∀ {ps : List (Nat × T)} {vs : List (Nat × Value)} {xs ys : List AV} {C : Array Value}, RTN c w ps vs → RL c w xs C.toList → fillA place ps xs = some ys →
    ∃ D, Instr.fill place C vs = some D ∧ RL c w ys D.toList
  | [], [], xs, ys, C, _, hR, h => by simp [fillA] at h; subst h; exact ⟨C, rfl, hR⟩
  | (i, t) :: ps, (j, v) :: vs, xs, ys, C, hN, hR, h => by
    obtain ⟨rfl, ht, hN⟩ := hN
    simp only [fillA, splice_eq] at h
    split at h
    case h_2 => cases h
    rename_i o sz zs hp hz
    split at h
    case isFalse => cases h
    rename_i hc
    have hcells := RT_cells hz ht
    have hl := hcells.length
    have hl2 := hR.length
    have hvs : v.cells.size = sz := by rw [← hc.1, hl]; simp
    have hcs : o + sz ≤ C.size := by have := hc.2; rw [hl2] at this; simpa using this
    have hfold := foldl_set v.cells.toList C o 0 (by simp [hvs]; omega)
    obtain ⟨D, hD, hRD⟩ := fill_ok (place := place) (ps := ps) (vs := vs) (C := v.cells.zipIdx.foldl (fun cs (x : Value × Nat) => cs.setIfInBounds (o + x.2) x.1) C) hN (by
      rw [show v.cells.zipIdx.foldl (fun cs (x : Value × Nat) => cs.setIfInBounds (o + x.2) x.1) C = (v.cells.toList.zipIdx 0).foldl (fun cs (x : Value × Nat) => cs.setIfInBounds (o + x.2) x.1) C by
        rw [← Array.foldl_toList, Array.toList_zipIdx]]
      rw [hfold]
      simp only [Nat.add_zero, Array.length_toList, hvs]
      exact ((hR.take o).append hcells).append (hR.drop (o + sz))) h
    refine ⟨D, ?_, hRD⟩
    simp only [Instr.fill, hp]
    rw [if_neg (by simp [hvs]; omega)]
    exact hD

theorem mapM_places (fs : Array Field) (hf : ∀ i, i < fs.size → ∃ (f : Field) (sz : Nat), fs[i]? = some f ∧ ∃ inf, P.info? f.type = some inf ∧ inf.size = sz) (w : World) :
    ∃ pl : Array (Nat × Nat), (fs.mapM fun f => (Prod.mk f.offset <$> sizeOf f.type : Sem (Nat × Nat))).run P w = .ok pl w ∧ ∀ i : Nat, pl[i]? = (fs[i]?).map fun f => (f.offset, ((P.info? f.type).map (·.size)).getD 0) := by
  refine ⟨fs.map fun f => (f.offset, ((P.info? f.type).map (·.size)).getD 0), ?_, fun i => by simp⟩
  rw [Array.mapM_eq_mapM_toList]
  have key : ∀ l : List Field, (∀ f ∈ l, ∃ inf, P.info? f.type = some inf) → (l.mapM fun f => (Prod.mk f.offset <$> sizeOf f.type : Sem (Nat × Nat))).run P w = .ok (l.map fun f => (f.offset, ((P.info? f.type).map (·.size)).getD 0)) w := by
    intro l
    induction l with
    | nil => intro _; simp
    | cons f l ih =>
      intro h
      obtain ⟨inf, hi⟩ := h f (by simp)
      have := ih (fun g hg => h g (by simp [hg]))
      simp [List.mapM_cons, run_sizeOf hi, this, hi]
  have h1 := key fs.toList (fun f hf' => by
    obtain ⟨i, hi⟩ := List.getElem?_of_mem hf'
    obtain ⟨f', sz, h1, inf, h2, _⟩ := hf i (by have := (List.getElem?_eq_some_iff.1 hi).1; simpa using this)
    have : f' = f := by
      have h3 : fs[i]? = some f := by simpa using hi
      rw [h1] at h3; cases h3; rfl
    subst this
    exact ⟨inf, h2⟩)
  simp only [Sem.run_map, h1, Result.andThen_ok]
  congr 1
  apply Array.ext'
  simp

theorem opBuild_ok {E : Tab} (hE : E.ok P) {t : TypeId} {ps : List (Nat × T)} {vs : List (Nat × Value)} (hX : RTN c w ps vs) (hk : opBuild E K t ps) :
    ∃ v V, K v [] ∧ (Instr.build t vs.toArray).run P w = .ok V w ∧ RT c w v V := by
  unfold opBuild at hk
  split at hk
  case h_3 => exact hk.elim
  case h_2 =>
    rename_i zs n e hz hu'
    have hu := Tab.arr_ok hE hu'
    split at hk
    case h_2 => exact hk.elim
    rename_i sz g hty
    split at hk
    case h_2 => exact hk.elim
    rename_i xs hx
    obtain ⟨inf, d, hinf, _, rfl, _, _⟩ := tyI_some (Tab.ty_ok hE hty)
    obtain ⟨i, z, hi, hzz, rfl, hone⟩ := zrI_some (Tab.zr_ok hE hz)
    obtain ⟨D, hD, hR⟩ := fill_ok (place := fun i => some (i * inf.size, inf.size)) (C := z.cells) hX (RL.lits c w _ hone) hx
    exact ⟨_, .agg D, hk, by simp [Instr.build, zeroValue, typeInfo, hi, hzz, run_underlying hu, run_sizeOf hinf, hD], hR⟩
  rename_i zs nf hz hu'
  obtain ⟨fs, hu, rfl⟩ := Tab.struct_ok hE hu'
  split at hk
  case h_2 => exact hk.elim
  rename_i xs hx hall'
  have hall : ∀ i, i < fs.size → ∃ x, E.fld t i = some x ∧ fldI P t i = some x := fun i hi => by
    obtain ⟨x, hx⟩ := Option.isSome_iff_exists.1 (List.all_eq_true.1 hall' i (List.mem_range.2 hi))
    exact ⟨x, hx, Tab.fld_ok hE hx⟩
  obtain ⟨i, z, hi, hzz, rfl, hone⟩ := zrI_some (Tab.zr_ok hE hz)
  have hfld : ∀ i, i < fs.size → ∃ (f : Field) (o sz : Nat) (g : Bool), fs[i]? = some f ∧ fldI P t i = some (o, sz, g) ∧ f.offset = o ∧ ∃ inf, P.info? f.type = some inf ∧ inf.size = sz := fun i hi => by
    obtain ⟨⟨o, sz, g⟩, _, hf⟩ := hall i hi
    obtain ⟨fs', fd, h1, h2, h3, h4, _⟩ := fldI_some hf
    rw [hu] at h1; cases h1
    obtain ⟨inf, d, h5, _, h6, _⟩ := tyI_some h4
    exact ⟨fd, o, sz, g, h2, hf, h3, inf, h5, h6⟩
  obtain ⟨pl, hpl, hpl2⟩ := mapM_places (P := P) fs (fun i hi => by
    obtain ⟨f, o, sz, g, h1, _, _, inf, h2, h3⟩ := hfld i hi
    exact ⟨f, sz, h1, inf, h2, h3⟩) w
  have hplace : ∀ (l : List (Nat × T)) (xs ys : List AV), fillA (fun i => match E.fld t i with | some x => some (x.1, x.2.1) | none => none) l xs = some ys → fillA (fun i => pl[i]?) l xs = some ys := by
    intro l
    induction l with
    | nil => intro xs ys h; exact h
    | cons p l ih =>
      intro xs ys h
      obtain ⟨i, u⟩ := p
      simp only [fillA] at h ⊢
      split at h
      case h_2 => cases h
      rename_i o sz zs hp hz
      have hpl3 : pl[i]? = some (o, sz) := by
        split at hp
        · rename_i x hx
          cases hp
          obtain ⟨fs', fd, h1, h2, h3, h4, _⟩ := fldI_some (Tab.fld_ok hE hx)
          rw [hu] at h1; cases h1
          obtain ⟨inf, d, h5, _, h6, _⟩ := tyI_some h4
          rw [hpl2, h2]
          simp [h3, h5, h6]
        · cases hp
      rw [hpl3, hz]
      simp only
      split at h
      · rename_i hc; rw [if_pos hc]; exact ih _ _ h
      · cases h
  replace hx := hplace _ _ _ hx
  obtain ⟨D, hD, hR⟩ := fill_ok (place := fun i => pl[i]?) (C := z.cells) hX (RL.lits c w _ hone) hx
  exact ⟨_, .agg D, hk, by simp [Instr.build, zeroValue, typeInfo, hi, hzz, run_underlying hu, hpl, hD], hR⟩

theorem chunk_length (sz : Nat) : ∀ (k : Nat) (xs : List AV), (chunk sz xs k).length = k
  | 0, _ => rfl
  | k + 1, xs => by simp [chunk, chunk_length sz k]
theorem chunk_get (sz : Nat) : ∀ (k : Nat) (xs : List AV) (i : Nat), i < k → (chunk sz xs k)[i]? = some ((xs.drop (i * sz)).take sz)
  | k + 1, xs, 0, _ => by simp [chunk]
  | k + 1, xs, i + 1, h => by
    simp only [chunk, List.getElem?_cons_succ]
    rw [chunk_get sz k _ i (by omega), List.drop_drop]
    congr 3
    rw [Nat.add_mul]; omega

theorem RL.replicate_flat {zs : List Value} (hz : zs.all (·.oneCell') = true) : ∀ k, RL c w ((List.replicate k (zs.map .lit)).flatten) ((List.replicate k zs).flatten)
  | 0 => trivial
  | k + 1 => by
    simp only [List.replicate_succ, List.flatten_cons]
    exact (RL.lits c w zs hz).append (RL.replicate_flat hz k)

theorem range_map_flat (z : Array Value) (hz : 0 < z.size) (k : Nat) : ((Array.range (k * z.size)).map (z[· % z.size]!)).toList = (List.replicate k z.toList).flatten := by
  apply List.ext_getElem?
  intro i
  by_cases hi : i < k * z.size
  · have hm := Nat.mod_lt i hz
    have e1 : ((Array.range (k * z.size)).map (z[· % z.size]!)).toList[i]? = some (z[i % z.size]) := by
      simp [hi, hm]
    rw [e1]
    induction k generalizing i with
    | zero => omega
    | succ k ih =>
      simp only [List.replicate_succ, List.flatten_cons]
      by_cases h2 : i < z.size
      · rw [List.getElem?_append_left (by simpa using h2)]
        simp [Nat.mod_eq_of_lt h2, h2]
      · rw [List.getElem?_append_right (by simpa using Nat.le_of_not_lt h2)]
        simp only [Array.length_toList]
        have h3 : (i - z.size) % z.size = i % z.size := by rw [← Nat.mod_eq_sub_mod (Nat.le_of_not_lt h2)]
        have hk : i - z.size < k * z.size := by rw [Nat.add_mul] at hi; omega
        have := ih (i - z.size) hk (Nat.mod_lt _ hz) (by simp [hk, h3, hm])
        rw [← this]
        simp [h3]
  · rw [List.getElem?_eq_none (by simp; omega), List.getElem?_eq_none (by simp; omega)]

theorem opBuildSlice_ok {E : Tab} (hE : E.ok P) (h : H w0 L n σ a w c F) {site len : Nat} {t : TypeId} {ps : List (Nat × T)} {vs : List (Nat × Value)} (hX : RTN c w ps vs) (hk : opBuildSlice E K site t len ps) :
    ∃ v news, K v news ∧ (Fresh σ.mem news → ∃ V w', (Instr.buildSlice t len vs.toArray).run P w = .ok V w' ∧ Post w0 L n σ a news v V w') := by
  unfold opBuildSlice at hk
  split at hk
  case h_2 => exact hk.elim
  rename_i e sz by_ he
  split at hk
  case h_2 => exact hk.elim
  rename_i zs hz
  split at hk
  case isFalse => exact hk.elim
  rename_i hzl
  obtain ⟨hzs, hle⟩ := hzl
  split at hk
  case h_2 => exact hk.elim
  rename_i xs hx
  obtain ⟨inf, hu, hi, rfl, rfl, hne⟩ := elI_some (Tab.el_ok hE he)
  obtain ⟨i, z, hi', hzz, rfl, hall⟩ := zrI_some (Tab.zr_ok hE hz)
  rw [hi] at hi'; cases hi'
  have hzsz : z.cells.size = inf.size := by simpa using hzs
  refine ⟨_, _, hk, fun hf => ?_⟩
  have hs := hf _ (List.mem_singleton.2 rfl)
  have hflat : ∃ zero : Array Value, ((Array.range (len * inf.size)).map (zero[· % zero.size]!)).toList = (List.replicate len z.cells.toList).flatten ∧ (len * inf.size = 0 → zero = #[]) ∧ (len * inf.size ≠ 0 → zero = z.cells) := by
    by_cases h0 : len * inf.size = 0
    · refine ⟨#[], ?_, fun _ => rfl, fun h => absurd h0 h⟩
      have : len = 0 := by rcases Nat.mul_eq_zero.1 h0 with h | h; exact h; exact absurd h hne
      simp [this]
    · refine ⟨z.cells, ?_, fun h => absurd h h0, fun _ => rfl⟩
      have := range_map_flat z.cells (by omega) len
      rw [← hzsz]; exact this
  obtain ⟨zero, hC, hz0, hz1⟩ := hflat
  obtain ⟨D, hD, hR⟩ := fill_ok (place := fun i => some (i * inf.size, inf.size)) (C := (Array.range (len * inf.size)).map (zero[· % zero.size]!)) hX (by rw [hC]; exact RL.replicate_flat hall len) hx
  have hxl : xs.length = len * inf.size := by
    have : ∀ (ps : List (Nat × T)) (ys xs : List AV), fillA (fun i => some (i * inf.size, inf.size)) ps ys = some xs → xs.length = ys.length := by
      intro ps
      induction ps with
      | nil => intro ys xs h; simp [fillA] at h; rw [h]
      | cons p ps ih =>
        intro ys xs h
        obtain ⟨i, t⟩ := p
        simp only [fillA, splice_eq] at h
        split at h
        case h_2 => cases h
        rename_i o sz zs hp _
        split at h
        case isFalse => cases h
        rename_i hc
        have := ih _ _ h
        rw [this]
        simp
        omega
    rw [this _ _ _ hx]
    simp [hzs]
  replace hR := RL.map_bor hR
  have hbl : (xs.map AV.bor).length = len * inf.size := by simpa using hxl
  have hDl : D.size = len * inf.size := by have := hR.length; rw [hbl] at this; simpa using this.symm
  have hrun : (Instr.buildSlice t len vs.toArray).run P w = .ok (.slice (some ⟨w.heap.size, 0, none⟩) len len) (w.alloc (.cells D e)) := by
    unfold Instr.buildSlice
    simp only [Sem.run_bind, run_underlying hu, Result.andThen_ok, run_sizeOf hi]
    rw [if_neg (by omega)]
    by_cases h0 : len * inf.size = 0
    · rw [if_pos h0]
      rw [hz0 h0] at hD
      simp only [pure_bind, hD, Sem.run_bind, Go.newRow, run_newObj, Result.andThen_ok, Sem.run_pure, World.alloc_eq]
    · rw [if_neg h0]
      rw [hz1 h0] at hD
      have hzv : (zeroValue e).run P w = .ok z w := by simp [zeroValue, typeInfo, hi, hzz]
      simp only [pure_bind, hzv, hD, Sem.run_bind, Go.newRow, run_newObj, Result.andThen_ok, Sem.run_pure, World.alloc_eq]
  have hmx : len ≤ maxLen := by
    have : len ≤ len * inf.size := Nat.le_mul_of_pos_right _ (by omega)
    simp only [maxLen]; omega
  obtain ⟨c', F', hH, hat⟩ := h.newRow (w1 := w.alloc (.cells D e)) ((Bel.refl _ _).alloc (Nat.le_refl _) _) hs (p := (xs.map AV.bor).all AV.isData) (sz := inf.size) (cap := len)
    (es := chunk inf.size (xs.map AV.bor) len) (b := w.heap.size) (Nat.le_refl _) (heap_alloc_new w _) (fun i _ => by simp) (by rw [chunk_length]; exact Nat.le_refl _) hmx hDl (fun e' he' => by
      obtain ⟨i, hi⟩ := List.getElem?_of_mem he'
      have hil : i < len := by have := (List.getElem?_eq_some_iff.1 hi).1; rwa [chunk_length] at this
      rw [chunk_get _ _ _ _ hil] at hi
      cases hi
      have h5 : (i + 1) * inf.size ≤ len * inf.size := Nat.mul_le_mul_right _ (by omega)
      rw [Nat.add_mul] at h5
      rw [List.length_take, List.length_drop, hbl]; omega) (fun i j x v hx' hv => by
      unfold elt at hx'
      cases hci : (chunk inf.size (xs.map AV.bor) len)[i]? with
      | none => simp [hci] at hx'
      | some e' =>
        have hil : i < len := by have := (List.getElem?_eq_some_iff.1 hci).1; rwa [chunk_length] at this
        rw [chunk_get _ _ _ _ hil] at hci
        cases hci
        rw [chunk_get _ _ _ _ hil] at hx'
        simp only [Option.bind_some, List.getElem?_take, List.getElem?_drop] at hx'
        split at hx'
        · exact ⟨hR.at hx' (by simpa using hv), fun hp => List.all_eq_true.1 hp _ (List.mem_of_getElem? hx'), fun hc => by
            obtain ⟨y, _, rfl⟩ := List.mem_map.1 (List.mem_of_getElem? hx')
            exact bor_cell hc⟩
        · cases hx')
  refine ⟨_, _, hrun, c', F', hH, ?_, rfl⟩
  have := R.loc (c := c') (w := w.alloc (.cells D e)) (off := 0) (len := len) (A := some ⟨w.heap.size, 0, none⟩) hat (by omega) (fun _ => by simp)
  simpa using this

def opSrc (m : Nat → Option Blk) (sz : Nat) (y : T) (p : Bool) (src : List (List AV)) : Prop :=
  match y with
  | .one (.row _ rz es) => rz = sz ∧ p = true ∧ src = es
  | .one (.nn rz es) => rz = sz ∧ p = true ∧ src = es
  | .one (.loc s off len) => match m s with
    | some (.row p' rz es) => rz = sz ∧ off + len ≤ es.length ∧ p = p' ∧ src = (es.drop off).take len
    | _ => False
  | .one (.lit (.slice none 0 0)) => p = true ∧ src = []
  | _ => False

theorem opSrc_ok (h : H w0 L n σ a w c F) {m : Nat → Option Blk} (hm : Sup σ m) {sz : Nat} {y : T} {Y : Value} {p : Bool} {src : List (List AV)} (hY : RT c w y Y) (hk : opSrc m sz y p src) :
    (∀ e ∈ src, e.length = sz) ∧ ∃ A cp, Y = .slice A src.length cp ∧ (0 < src.length → ∃ b o, A = some ⟨b, o, none⟩ ∧
      ∃ news : List Value, news.length = src.length * sz ∧ (∀ (j : Nat) (v : Value), news[j]? = some v → w.cell? ⟨b, o + j, none⟩ = some v) ∧
        ∀ (i j : Nat) (x : AV) (v : Value), elt src i j = some x → news[i * sz + j]? = some v → R c w x v ∧ v.oneCell' = true ∧ (p = true → x.isCell = true)) := by
  have flat : ∀ (es : List (List AV)) (b o : Nat) (p : Bool), (∀ e ∈ es, e.length = sz) → (∀ (i j : Nat) (x : AV), elt es i j = some x → ∃ v, w.cell? ⟨b, o + i * sz + j, none⟩ = some v ∧ v.oneCell' = true ∧ R c w x v ∧ (p = true → x.isCell = true)) →
      ∃ news : List Value, news.length = es.length * sz ∧ (∀ (j : Nat) (v : Value), news[j]? = some v → w.cell? ⟨b, o + j, none⟩ = some v) ∧
        ∀ (i j : Nat) (x : AV) (v : Value), elt es i j = some x → news[i * sz + j]? = some v → R c w x v ∧ v.oneCell' = true ∧ (p = true → x.isCell = true) := by
    intro es b o p hl hc
    have hcell : ∀ k, k < es.length * sz → ∃ v, w.cell? ⟨b, o + k, none⟩ = some v := fun k hk => by
      have hsz : 0 < sz := by rcases Nat.eq_zero_or_pos sz with e | e; simp [e] at hk; exact e
      have hi : k / sz < es.length := (Nat.div_lt_iff_lt_mul hsz).2 hk
      have hj : k % sz < (es[k / sz]).length := by rw [hl _ (List.getElem_mem hi)]; exact Nat.mod_lt _ hsz
      obtain ⟨v, hv, _⟩ := hc (k / sz) (k % sz) (es[k / sz][k % sz]) (by simp [elt, hi, hj])
      refine ⟨v, ?_⟩
      rw [← hv]; congr 2
      have := Nat.div_add_mod k sz
      rw [Nat.mul_comm] at this; omega
    refine ⟨(List.range (es.length * sz)).map fun k => (w.cell? ⟨b, o + k, none⟩).getD default, by simp, fun j v hv => ?_, fun i j x v hx hv => ?_⟩
    · have hj : j < es.length * sz := by have := (List.getElem?_eq_some_iff.1 hv).1; simpa using this
      obtain ⟨u, hu⟩ := hcell j hj
      simp [hj, hu] at hv
      rw [← hv]; exact hu
    · obtain ⟨hi, hj⟩ := elt_lt hl hx
      have hlt := fit_lt hi hj (Nat.le_refl es.length)
      obtain ⟨u, h1, h2, h3, h4⟩ := hc i j x hx
      rw [Nat.add_assoc] at h1
      simp [hlt, h1] at hv
      subst hv
      exact ⟨h3, h2, h4⟩
  have ofRow : ∀ (own : Bool) (es : List (List AV)) (V : Value), R c w (.row own sz es) V → (∀ e ∈ es, e.length = sz) ∧ ∃ A cp, V = .slice A es.length cp ∧ (0 < es.length → ∃ b o, A = some ⟨b, o, none⟩ ∧
      ∃ news : List Value, news.length = es.length * sz ∧ (∀ (j : Nat) (v : Value), news[j]? = some v → w.cell? ⟨b, o + j, none⟩ = some v) ∧
        ∀ (i j : Nat) (x : AV) (v : Value), elt es i j = some x → news[i * sz + j]? = some v → R c w x v ∧ v.oneCell' = true ∧ (true = true → x.isCell = true)) := by
    intro own es V hV
    cases hV with
    | @row _ _ _ A cap b o vals a1 a2 a3 a4 a0 a5 a6 a7 =>
      refine ⟨a4, A, cap, rfl, fun hl => ?_⟩
      obtain ⟨rfl, _⟩ := a3 hl
      exact ⟨b, o, rfl, flat _ b o true a4 fun i j x hx => ⟨_, a5 i j x hx, a6 i j x hx, a7 i j x hx, fun _ => a0 i j x hx⟩⟩
  unfold opSrc at hk
  split at hk
  · obtain ⟨rfl, rfl, rfl⟩ := hk
    exact ofRow _ _ _ hY.1
  · obtain ⟨rfl, rfl, rfl⟩ := hk
    obtain ⟨hY, _⟩ := hY
    cases hY with | nn hY => exact ofRow _ _ _ hY
  · rename_i s off len
    split at hk
    case h_2 => exact hk.elim
    rename_i p' rz es hs
    obtain ⟨rfl, hfit, rfl, rfl⟩ := hk
    replace hs : σ.mem s = some (.row p rz es) := by
      obtain ⟨hY, _⟩ := hY
      cases hY with
      | loc h1 => exact h.look hm h1 hs
      | locnil h1 => exact h.look hm h1 hs
    have hlen : ((es.drop off).take len).length = len := by rw [List.length_take, List.length_drop]; omega
    obtain ⟨hY, _⟩ := hY
    rcases h.mem s _ hs with ⟨hat, rfl, _⟩ | ⟨b, cap, hat, C, el, fz, G, a1, a2, a3, a4, a5, a6, a7, a8, a9, a10, a11, a12⟩
    · simp
      cases hY with
      | locnil => exact ⟨none, 0, rfl⟩
      | loc h1 => rw [hat] at h1; cases h1
    · refine ⟨fun e he => a6 e (List.mem_of_mem_drop (List.mem_of_mem_take he)), ?_⟩
      cases hY with
      | locnil h1 => rw [hat] at h1; cases h1
      | @loc _ _ _ b' cap' sz' A h1 hle hA =>
        rw [hat] at h1; cases h1
        rw [hlen]
        refine ⟨A, _, rfl, fun hl => ⟨b, off * rz, hA (by omega), ?_⟩⟩
        have := flat ((es.drop off).take len) b (off * rz) p (fun e he => a6 e (List.mem_of_mem_drop (List.mem_of_mem_take he))) fun i j x hx => ?_
        · rwa [hlen] at this
        · have hx' : elt es (off + i) j = some x := by
            unfold elt at hx ⊢
            rw [List.getElem?_take] at hx
            split at hx
            · rwa [List.getElem?_drop] at hx
            · simp at hx
          obtain ⟨hi, hj⟩ := elt_lt a6 hx'
          have hfit2 := fit_lt hi hj a3
          have hv : C[(off + i) * rz + j]? = some (C[(off + i) * rz + j]'(by omega)) := by simp
          refine ⟨_, by simp only [World.cell?, a1, Option.isSome_none, Bool.false_eq_true, if_false]; rw [← hv, Nat.add_mul], a7 _ _ x _ hx' hv, ?_, ?_⟩
          · rcases a8 _ _ x _ hx' hv with h1 | h1
            · refine h1.read fun q hq => ?_
              have hF : F s q := (a12 q).2 (.inr ⟨_, _, hq⟩)
              rw [h.inn s q hF]
              rintro (ht | ⟨_, _, ht⟩)
              · rw [hat] at ht; cases ht
              · rw [hat] at ht; cases ht; exact a9 _ _ hq
            · exact h1.2.2.1
          · intro hp
            exact ((a8 _ _ x _ hx' hv).resolve_right (fun h => by rw [hp] at h; cases h.1)).isCell
  · obtain ⟨rfl, rfl⟩ := hk
    obtain rfl := one_lit hY
    exact ⟨by simp, none, 0, rfl, fun h => by simp at h⟩
  · exact hk.elim


def byteE (b : UInt8) : List AV := [.lit (.int .u8 (b.toNat : Int))]

def opToBytes (E : Tab) (K : T → News → Prop) (site : Nat) (dst : TypeId) (x : T) : Prop :=
  match E.el dst, x with
  | some (e, sz, _), .one (.lit (.string s)) => match E.kd e with
    | some (.int .u8) => if sz = 1 then s.size ≤ maxLen ∧ K (.one (.loc site 0 s.size)) [(site, .row true 1 (s.data.toList.map byteE))] else False
    | _ => False
  | _, _ => False
def opToStr (E : Tab) (m : Nat → Option Blk) (K : T → News → Prop) (src : TypeId) (x : T) : Prop :=
  match E.el src with
  | some (e, sz, _) => match E.kd e with
    | some (.int .u8) => if sz = 1 then ∃ p es l, opSrc m 1 x p es ∧ es = List.map byteE l ∧ K (.one (.lit (.string ⟨l.toArray⟩))) [] else False
    | _ => False
  | none => False
def opConv2 (E : Tab) (m : Nat → Option Blk) (K : T → News → Prop) (site : Nat) (src dst : TypeId) (x : T) : Prop :=
  match E.kd dst, E.kd src with
  | some .sl, some .str => opToBytes E K site dst x
  | some .str, some .sl => opToStr E m K src x
  | _, _ => opConv E K src dst x

theorem bytesWorld_below (w : World) (e : TypeId) (s : ByteArray) : Bel w.heap.size w (Lib.bytesWorld w e s) :=
  ⟨rfl, rfl, rfl, by rw [Lib.bytesWorld_size]; omega, fun k hk => Lib.bytesWorld_at_old w e s k hk, by intro _; first | exact Nat.le_refl _ | exact Nat.le_succ _ | (simp [Lib.bytesWorld]; done)⟩

theorem opConv2_ok {E : Tab} (hE : E.ok P) (h : H w0 L n σ a w c F) {m : Nat → Option Blk} (hm : Sup σ m) {site : Nat} {src dst : TypeId} {x : T} {X : Value} (hX : RT c w x X) (hk : opConv2 E m K site src dst x) :
    ∃ v news, K v news ∧ (Fresh σ.mem news → ∃ V w', (convert src dst X).run P w = .ok V w' ∧ Post w0 L n σ a news v V w') := by
  unfold opConv2 at hk
  split at hk
  · rename_i hd hs
    replace hs := Tab.str_ok hE hs
    unfold opToBytes at hk
    split at hk
    case h_2 => exact hk.elim
    rename_i e sz by_ s he
    split at hk
    case h_2 => exact hk.elim
    rename_i hke
    split at hk
    case isFalse => exact hk.elim
    rename_i hsz
    subst hsz
    obtain ⟨hmx, hk⟩ := hk
    obtain ⟨inf, hu, hi, hsz1, rfl, hne⟩ := elI_some (Tab.el_ok hE he)
    have hue := Tab.int_ok hE hke
    obtain rfl := one_lit hX
    refine ⟨_, _, hk, fun hf => ?_⟩
    have hfr := hf _ (List.mem_singleton.2 rfl)
    have hrun := Lib.run_convert_string_bytes (P := P) w src dst e s hs hu hue
    have hge := grownCap_ge w s.size 0 e
    have hle := grownCap_le_maxLen w s.size 0 e hmx
    have hsize : (Lib.bytesCells w e s).size = grownCap w s.size 0 e * 1 := by
      have : s.data.size = s.size := rfl
      simp [Lib.bytesCells]; omega
    obtain ⟨c', F', hH, hat⟩ := h.newRow (w1 := Lib.bytesWorld w e s) (bytesWorld_below w e s) hfr (p := true) (sz := 1) (cap := grownCap w s.size 0 e) (es := s.data.toList.map byteE) (b := w.heap.size) (Nat.le_refl _) (Lib.bytesWorld_at_new w e s)
      (fun i hi => by have : pad 1 = 0 := rfl; simp; omega) (by simpa using hge) hle hsize (fun e' he' => by obtain ⟨b, _, rfl⟩ := List.mem_map.1 he'; rfl) (fun i j x v hx hv => by
        unfold elt at hx
        rw [List.getElem?_map] at hx
        cases hb : s.data.toList[i]? with
        | none => simp [hb] at hx
        | some b =>
          simp only [hb, Option.map_some, Option.bind_some, byteE] at hx
          cases j with
          | succ j => simp at hx
          | zero =>
            simp at hx
            subst hx
            have hib := List.getElem?_eq_some_iff.1 hb
            have hi : i < s.data.size := by simpa using hib.1
            have : v = .int .u8 (b.toNat : Int) := by
              simp only [Lib.bytesCells, Nat.mul_one, Nat.add_zero] at hv
              rw [Array.getElem?_append_left (by simpa using hi)] at hv
              simp [hi] at hv
              obtain ⟨a, ha, rfl⟩ := hv
              have h2 := hib.2
              rw [Array.getElem?_eq_getElem hi] at ha
              simp at h2
              simp only [Option.some.injEq] at ha
              rw [← ha, h2]
            subst this
            exact ⟨⟨.lit _, rfl⟩, fun _ => rfl, fun _ => rfl⟩)
    refine ⟨_, _, hrun, c', F', hH, ?_, rfl⟩
    have := R.loc (c := c') (w := Lib.bytesWorld w e s) (off := 0) (len := s.size) (A := some ⟨w.heap.size, 0, none⟩) hat (by omega) (fun _ => by simp)
    simpa using this
  · rename_i hd hs
    replace hd := Tab.str_ok hE hd
    unfold opToStr at hk
    split at hk
    case h_2 => exact hk.elim
    rename_i e sz by_ he
    split at hk
    case h_2 => exact hk.elim
    rename_i hke
    split at hk
    case isFalse => exact hk.elim
    rename_i hsz
    subst hsz
    obtain ⟨p, es, l, hsrc, rfl, hk⟩ := hk
    obtain ⟨inf, hu, hi, hsz1, rfl, hne⟩ := elI_some (Tab.el_ok hE he)
    have hue := Tab.int_ok hE hke
    obtain ⟨_, A, cp, rfl, hA⟩ := opSrc_ok h hm hX hsrc
    refine ⟨_, _, hk, fun _ => ⟨_, w, ?_, c, F, h, RT_lit _ rfl⟩⟩
    by_cases h0 : l = []
    · subst h0
      cases A with
      | none =>
        rw [run_convert_bytes_string w src dst e _ _ _ hu hue hd]
        simp [Conv.bytesToString]
        rfl
      | some A =>
        have := run_convert_bytes_back (P := P) w src dst e A cp [] hu hue hd (fun j hj => by simp at hj)
        simpa using this
    · have hpos : 0 < (List.map byteE l).length := by simp; exact List.length_pos_iff.2 h0
      obtain ⟨b, o, rfl, news, hnl, hnc, hnr⟩ := hA hpos
      have := run_convert_bytes_back (P := P) w src dst e ⟨b, o, none⟩ cp l hu hue hd (fun j hj => by
        rw [Addr.add_lit]
        have hjn : j < news.length := by rw [hnl]; simpa using hj
        have h1 := hnr j 0 (.lit (.int .u8 (l[j].toNat : Int))) news[j] (by simp [elt, hj, byteE]) (by simp [hjn])
        have h2 := one_lit ⟨h1.1, h1.2.1⟩
        exact hnc j _ (by rw [List.getElem?_eq_getElem hjn, h2]))
      simpa using this
  · obtain ⟨v, V, h1, h2, h3⟩ := opConv_ok hE hX hk
    exact ⟨v, [], h1, fun _ => ⟨V, w, h2, c, F, h, h3⟩⟩
end
end Go.Proofs.YtjajnladldchcaaDoor
namespace Go.Proofs.YtjajnladldchcaaDoor
open Go.RowKit
set_option linter.unusedSimpArgs false
set_option linter.unusedVariables false

def all2 (p : AV → AV → Prop) : List AV → List AV → Prop
  | [], [] => True
  | x :: xs, y :: ys => p x y ∧ all2 p xs ys
  | _, _ => False

def LendA (m : Nat → Option Blk) : Nat → AV → AV → Prop
  | _, _, .dead => True
  | _, .lit (.slice none 0 0), y => y = .lit (.slice none 0 0) ∨ (∃ own sz, y = .row own sz []) ∨ ∃ s, m s = some (.par (.slice none 0 0) y)
  | _, .lit v, y => y = .lit v ∨ ∃ s, m s = some (.par v y)
  | _, .row _ sz es, .row _ sz' es' => sz' = sz ∧ es' = es
  | _, .nn sz es, .row _ sz' es' => sz' = sz ∧ es' = es
  | _, .loc s off len, .row _ sz' es' => match m s with
    | some (.row true sz es) => sz' = sz ∧ off + len ≤ es.length ∧ es' = (es.drop off).take len
    | _ => False
  | _, .bptr xs j, .bptr xs' j' => xs' = xs ∧ j' = j
  | k + 1, .ptr s j, .bptr xs' j' => match m s with
    | some (.var xs) => j' = j ∧ xs'.all AV.isFree = true ∧ all2 (LendA m k) xs xs'
    | _ => False
  | k + 1, .eptr s i j, .bptr xs' j' => match m s with
    | some (.row true _ es) => ∃ e, es[i]? = some e ∧ j' = j ∧ xs' = e.map AV.bor
    | _ => False
  | k + 1, .fn f caps, .fn f' caps' => f' = f ∧ all2 (LendA m k) caps caps'
  | _, _, _ => False
def LendT (m : Nat → Option Blk) : T → T → Prop
  | _, .dead => True
  | .one x, .one y => LendA m 4 x y
  | .agg xs, .agg ys => all2 (LendA m 4) xs ys
  | _, _ => False
def LendTs (m : Nat → Option Blk) : List T → List T → Prop
  | [], [] => True
  | x :: xs, y :: ys => LendT m x y ∧ LendTs m xs ys
  | _, _ => False

def c0 (I : Nat → Prop) : Ctx := ⟨fun _ => none, I⟩

section
variable {P : Program} {w0 w : World} {L : Nat → Prop} {n : Nat} {σ : AS} {a : Act} {c : Ctx} {F : Nat → Nat → Prop} {K : T → News → Prop}

theorem AV.bor_free {x : AV} (h : x.isFree = true) : x.bor.isFree = true := by cases x <;> first | exact h | rfl

def lentI0 (c : Ctx) (F : Nat → Nat → Prop) (O : Nat → Prop) (k : Nat) : Prop := c.I k ∨ (∃ s, F s k) ∨ O k

theorem H.rowAll (h : H w0 L n σ a w c F) {s : Nat} {sz : Nat} {es : List (List AV)} (hs : σ.mem s = some (.row true sz es)) :
    (c.at_ s = some .nil ∧ es = []) ∨ ∃ b cap, c.at_ s = some (.row b cap sz) ∧ es.length ≤ cap ∧ cap ≤ maxLen ∧ (∀ e ∈ es, e.length = sz) ∧ F s b ∧
      ∀ (i j : Nat) (x : AV), elt es i j = some x → ∃ v, w.cell? ⟨b, i * sz + j, none⟩ = some v ∧ v.oneCell' = true ∧ x.isCell = true ∧ R c w x v := by
  rcases h.mem s _ hs with ⟨h1, h2, _⟩ | ⟨b, cap, hat, hB⟩
  · exact .inl ⟨h1, h2⟩
  · have hB' := hB
    obtain ⟨C, el, fz, G, a1, a2, a3, a4, a5, a6, a7, a8, a9, a10, a11, a12⟩ := hB'
    refine .inr ⟨b, cap, hat, a3, a4, a6, (a12 b).2 (.inl rfl), fun i j x hx => ?_⟩
    obtain ⟨hi, hj⟩ := elt_lt a6 hx
    have hfit := fit_lt hi hj a3
    have hv : C[i * sz + j]? = some (C[i * sz + j]'(by omega)) := by simp
    have h8 := (a8 i j x _ hx hv).resolve_right (by simp)
    refine ⟨_, by simp only [World.cell?, a1, Option.isSome_none, Bool.false_eq_true, if_false]; exact hv, a7 i j x _ hx hv, h8.isCell, h8.read fun q hq => ?_⟩
    have hF : F s q := (a12 q).2 (.inr ⟨i, j, hq⟩)
    rw [h.inn s q hF]
    rintro (ht | ⟨_, _, ht⟩)
    · rw [hat] at ht; cases ht
    · rw [hat] at ht; cases ht; exact a9 i j hq

theorem R.anyOwn {c : Ctx} {w : World} {o o' : Bool} {sz : Nat} {es : List (List AV)} {v : Value} (h : R c w (.row o sz es) v) : R c w (.row o' sz es) v := by
  cases h with
  | row b o vals a1 a2 a3 a4 a5 a6 a7 a8 => exact .row b o vals a1 a2 a3 a4 a5 a6 a7 a8

theorem all2_len {p : AV → AV → Prop} : ∀ {xs ys : List AV}, all2 p xs ys → xs.length = ys.length
  | [], [], _ => rfl
  | _ :: _, _ :: _, h => by simp [all2_len h.2]
theorem all2_at {p : AV → AV → Prop} : ∀ {xs ys : List AV}, all2 p xs ys → ∀ (i : Nat) (y : AV), ys[i]? = some y → ∃ x, xs[i]? = some x ∧ p x y
  | [], [], _, i, y, h => by simp at h
  | x :: _, y :: _, h, 0, _, hy => by simp at hy; subst hy; exact ⟨x, rfl, h.1⟩
  | _ :: _, _ :: _, h, i + 1, y, hy => by simpa using all2_at h.2 i y (by simpa using hy)

theorem H.glw (h : H w0 L n σ a w c F) : GlW w (lentI0 c F (oldB w0 L)) :=
  h.gl.mono (fun b hb => .inr (.inr hb)) h.keeps.size fun b hb => h.keeps.block b hb.1 hb.2
theorem lendA_ok (h : H w0 L n σ a w c F) {m : Nat → Option Blk} (hm : Sup σ m) : ∀ (k : Nat) {x y : AV} {v : Value}, R c w x v → LendA m k x y → R (c0 (lentI0 c F (oldB w0 L))) w y v := by
  have hI : ∀ b, c.I b → (c0 (lentI0 c F (oldB w0 L))).I b := fun b hb => .inl hb
  intro k
  induction k using Nat.strongRecOn with
  | _ k ih =>
  intro x y v hX hl
  unfold LendA at hl
  split at hl
  · exact .dead v
  · cases hX
    rcases hl with rfl | ⟨own, sz, rfl⟩ | ⟨s, hs⟩
    · exact .lit _
    rotate_left
    · have hs' := hm.2 s _ rfl hs
      obtain ⟨a2, a3, _⟩ := h.par s _ _ hs'
      exact R.free (c' := c0 (lentI0 c F (oldB w0 L))) (fun b hb => Or.inr (Or.inr hb)) (fun b (hb : oldB w0 L b) => h.keeps.block b hb.1 hb.2) a3 a2
    · exact .row 0 0 (fun _ _ => default) (Nat.le_refl _) (by simp [maxLen]) (by simp) (by simp) (by simp [elt]) (by simp [elt]) (by simp [elt]) (by simp [elt])
  · cases hX
    rcases hl with rfl | ⟨s, hs⟩
    · exact .lit _
    · have hs' := hm.2 s _ rfl hs
      obtain ⟨a2, a3, _⟩ := h.par s _ _ hs'
      exact R.free (c' := c0 (lentI0 c F (oldB w0 L))) (fun b hb => Or.inr (Or.inr hb)) (fun b (hb : oldB w0 L b) => h.keeps.block b hb.1 hb.2) a3 a2
  · obtain ⟨rfl, rfl⟩ := hl
    exact (hX.free hI (fun _ _ => rfl) rfl).anyOwn
  · obtain ⟨rfl, rfl⟩ := hl
    cases hX with | nn hX => exact (hX.free hI (fun _ _ => rfl) rfl).anyOwn
  · rename_i s off len own sz' es'
    split at hl
    case h_2 => exact hl.elim
    rename_i sz es hs
    obtain ⟨rfl, hfits, rfl⟩ := hl
    replace hs : σ.mem s = some (.row true sz' es) := by
      cases hX with
      | locnil h1 => exact h.look hm h1 hs
      | loc h1 => exact h.look hm h1 hs
    rcases h.rowAll hs with ⟨hat, rfl⟩ | ⟨b, cap, hat, a3, a4, a6, hFb, hcell⟩
    · cases hX with
      | locnil _ => simp only [List.drop_nil, List.take_nil]; exact .row 0 0 (fun _ _ => default) (Nat.le_refl _) (by simp [maxLen]) (by simp) (by simp) (by simp [elt]) (by simp [elt]) (by simp [elt]) (by simp [elt])
      | loc h1 => rw [hat] at h1; cases h1
    · cases hX with
      | locnil h1 => rw [hat] at h1; cases h1
      | @loc _ _ _ b' cap' sz'' A h1 hle hA =>
        rw [hat] at h1; cases h1
        have hel : ∀ (i j : Nat) (x : AV), elt ((es.drop off).take len) i j = some x → i < len ∧ elt es (off + i) j = some x := fun i j x hx => by
          unfold elt at hx ⊢
          rw [List.getElem?_take] at hx
          split at hx
          · rw [List.getElem?_drop] at hx; exact ⟨by assumption, hx⟩
          · simp at hx
        have hlen : ((es.drop off).take len).length = len := by rw [List.length_take, List.length_drop]; omega
        have hmem : ∀ i j : Nat, ∃ v, ∀ x, elt es (off + i) j = some x → w.cell? ⟨b, (off + i) * sz' + j, none⟩ = some v ∧ v.oneCell' = true ∧ x.isCell = true ∧ R c w x v := fun i j => by
          cases hx : elt es (off + i) j with
          | none => exact ⟨default, fun x h => by cases h⟩
          | some x => obtain ⟨v, hv⟩ := hcell _ _ _ hx; exact ⟨v, fun y hy => by cases hy; exact hv⟩
        have key := R.row (c := c0 (lentI0 c F (oldB w0 L))) (w := w) (own := own) (sz := sz') (es := (es.drop off).take len) (A := A) (cap := cap - off) b (off * sz') (fun i j => (hmem i j).choose)
          (by rw [hlen]; omega) (by omega) (fun hlt => ⟨hA (by rw [hlen] at hlt; omega), .inr (.inl ⟨s, hFb⟩)⟩) (fun e he => a6 e (List.mem_of_mem_drop (List.mem_of_mem_take he)))
          (fun i j x hx => ((hmem i j).choose_spec x (hel i j x hx).2).2.2.1)
          (fun i j x hx => by have := ((hmem i j).choose_spec x (hel i j x hx).2).1; rw [← this]; congr 2; rw [Nat.add_mul])
          (fun i j x hx => ((hmem i j).choose_spec x (hel i j x hx).2).2.1)
          (fun i j x hx => ((hmem i j).choose_spec x (hel i j x hx).2).2.2.2.free hI (fun _ _ => rfl) (by have := ((hmem i j).choose_spec x (hel i j x hx).2).2.2.1; cases x <;> simp_all [AV.isCell, AV.isFree]))
        rw [hlen] at key
        exact key
  · obtain ⟨rfl, rfl⟩ := hl
    exact hX.free hI (fun _ _ => rfl) rfl
  · rename_i k s j xs' j'
    split at hl
    case h_2 => exact hl.elim
    rename_i xs hs
    obtain ⟨rfl, hfree, hl⟩ := hl
    cases hX with | @ptr _ _ b hp =>
    obtain ⟨b', hat, hFb, vs, hR, hv⟩ := h.varCells (h.look hm hp hs)
    rw [hp] at hat; cases hat
    have hlen := hR.length
    have hmem : ∀ i : Nat, ∃ v, ∀ y, xs'[i]? = some y → w.cell? ⟨b, i, none⟩ = some v ∧ v.oneCell' = true ∧ R (c0 (lentI0 c F (oldB w0 L))) w y v := fun i => by
      cases hy : xs'[i]? with
      | none => exact ⟨default, fun x h => by cases h⟩
      | some y =>
        obtain ⟨x, hx, hxy⟩ := all2_at hl i y hy
        have hi : i < vs.length := by rw [← hlen]; exact (List.getElem?_eq_some_iff.1 hx).1
        have hvi : vs[i]? = some vs[i] := by simp [hi]
        exact ⟨vs[i], fun z hz => by cases hz; exact ⟨hv _ _ hvi, (hR.at hx hvi).2, ih k (by omega) (hR.at hx hvi).1 hxy⟩⟩
    have key := R.bptr (c := c0 (lentI0 c F (oldB w0 L))) (w := w) (xs := xs') (j := j') b 0 (fun i => (hmem i).choose) (.inr (.inl ⟨s, hFb⟩))
      (fun i x hx => List.all_eq_true.1 hfree _ (List.mem_of_getElem? hx))
      (fun i x hx => by rw [Nat.zero_add]; exact ((hmem i).choose_spec x hx).1)
      (fun i x hx => ((hmem i).choose_spec x hx).2.1)
      (fun i x hx => ((hmem i).choose_spec x hx).2.2)
    simpa using key
  · rename_i k s i j xs' j'
    split at hl
    case h_2 => exact hl.elim
    rename_i sz es hs
    obtain ⟨e, he, rfl, rfl⟩ := hl
    cases hX with | @eptr _ _ _ b cap sz' hp =>
    rcases h.rowAll (h.look hm hp hs) with ⟨hat, rfl⟩ | ⟨b', cap', hat, a3, a4, a6, hFb, hcell⟩
    · simp at he
    rw [hp] at hat; cases hat
    have hmem : ∀ k : Nat, ∃ v, ∀ x, e[k]? = some x → w.cell? ⟨b, i * sz + k, none⟩ = some v ∧ v.oneCell' = true ∧ x.isCell = true ∧ R c w x v := fun k => by
      cases hx : e[k]? with
      | none => exact ⟨default, fun x h => by cases h⟩
      | some x => obtain ⟨v, hv⟩ := hcell i k x (by simp [elt, he, hx]); exact ⟨v, fun y hy => by cases hy; exact hv⟩
    have hget : ∀ (i : Nat) (x : AV), (e.map AV.bor)[i]? = some x → ∃ y, e[i]? = some y ∧ x = y.bor := fun i x hx => by
      rw [List.getElem?_map] at hx
      cases hy : e[i]? with
      | none => simp [hy] at hx
      | some y => simp [hy] at hx; exact ⟨y, rfl, hx.symm⟩
    have hfr : ∀ y : AV, y.isCell = true → y.isFree = true := fun y hy => by cases y <;> simp_all [AV.isCell, AV.isFree]
    exact R.bptr (c := c0 (lentI0 c F (oldB w0 L))) (w := w) (xs := e.map AV.bor) (j := j') b (i * sz) (fun i => (hmem i).choose) (.inr (.inl ⟨s, hFb⟩))
      (fun i x hx => by obtain ⟨y, hy, rfl⟩ := hget i x hx; exact AV.bor_free (hfr _ ((hmem i).choose_spec y hy).2.2.1))
      (fun i x hx => by obtain ⟨y, hy, rfl⟩ := hget i x hx; exact ((hmem i).choose_spec y hy).1)
      (fun i x hx => by obtain ⟨y, hy, rfl⟩ := hget i x hx; exact ((hmem i).choose_spec y hy).2.1)
      (fun i x hx => by obtain ⟨y, hy, rfl⟩ := hget i x hx; exact (((hmem i).choose_spec y hy).2.2.2.free (c' := c0 (lentI0 c F (oldB w0 L))) (fun b hb => .inl hb) (fun _ _ => rfl) (hfr _ ((hmem i).choose_spec y hy).2.2.1)).bor)
  · rename_i k f caps f' caps'
    obtain ⟨rfl, hl⟩ := hl
    cases hX with | fn a1 a0 a2 =>
    refine .fn (by rw [a1, all2_len hl]) a0 fun i y v hy hv => ?_
    obtain ⟨x, hx, hxy⟩ := all2_at hl i y hy
    exact ih k (by omega) (a2 i x v hx hv) hxy
  · exact hl.elim

theorem lendT_ok (h : H w0 L n σ a w c F) {m : Nat → Option Blk} (hm : Sup σ m) {t u : T} {v : Value} (hX : RT c w t v) (hl : LendT m t u) : RT (c0 (lentI0 c F (oldB w0 L))) w u v := by
  unfold LendT at hl
  split at hl
  · trivial
  · exact ⟨lendA_ok h hm 4 hX.1 hl, hX.2⟩
  · rename_i xs ys
    cases v <;> try exact hX.elim
    rename_i vs
    have hR : RL c w xs vs.toList := hX
    refine RL.of (by rw [← all2_len hl]; exact hR.length) fun i y v hy hv => ?_
    obtain ⟨x, hx, hxy⟩ := all2_at hl i y hy
    exact ⟨lendA_ok h hm 4 (hR.at hx hv).1 hxy, (hR.at hx hv).2⟩
  · exact hl.elim

theorem all2_mono {p q : AV → AV → Prop} (h : ∀ x y, p x y → q x y) : ∀ {xs ys : List AV}, all2 p xs ys → all2 q xs ys
  | [], [], _ => trivial
  | _ :: _, _ :: _, hp => ⟨h _ _ hp.1, all2_mono h hp.2⟩
theorem LendA.up {m m' : Nat → Option Blk} (hm : ∀ s k, m s = some k → m' s = some k) : ∀ (k : Nat) {x y : AV}, LendA m k x y → LendA m' k x y := by
  intro k
  induction k using Nat.strongRecOn with
  | _ k ih =>
  intro x y h
  unfold LendA at h ⊢
  split at h <;> try exact h
  · exact h.imp id (Or.imp id fun ⟨s, hs⟩ => ⟨s, hm _ _ hs⟩)
  · exact h.imp id fun ⟨s, hs⟩ => ⟨s, hm _ _ hs⟩
  · split at h
    · rename_i hs; rw [hm _ _ hs]; exact h
    · exact h.elim
  · split at h
    · rename_i hs; rw [hm _ _ hs]; exact ⟨h.1, h.2.1, all2_mono (fun x y => ih _ (by omega)) h.2.2⟩
    · exact h.elim
  · split at h
    · rename_i hs; rw [hm _ _ hs]; exact h
    · exact h.elim
  · exact ⟨h.1, all2_mono (fun x y => ih _ (by omega)) h.2⟩
theorem LendT.up {m m' : Nat → Option Blk} (hm : ∀ s k, m s = some k → m' s = some k) {t u : T} (h : LendT m t u) : LendT m' t u := by
  unfold LendT at h ⊢
  split at h <;> try exact h
  · exact h.up hm
  · exact all2_mono (fun x y h => h.up hm) h
theorem LendTs.up {m m' : Nat → Option Blk} (hm : ∀ s k, m s = some k → m' s = some k) : ∀ {ts us : List T}, LendTs m ts us → LendTs m' ts us
  | [], [], _ => trivial
  | _ :: _, _ :: _, h => ⟨h.1.up hm, LendTs.up hm h.2⟩

end
end Go.Proofs.YtjajnladldchcaaDoor
namespace Go.Proofs.YtjajnladldchcaaDoor
open Go.RowKit
set_option linter.unusedSimpArgs false
set_option linter.unusedVariables false

def AV.nb : Nat → AV → Bool
  | _, .lit _ => true
  | k + 1, .row true _ es => es.all fun e => e.all (AV.nb k)
  | _, _ => false
def T.nb : T → Bool
  | .one x => x.nb 5
  | .agg xs => xs.all (AV.nb 5)
  | .tup ts => ts.all fun t => t.2.all (AV.nb 5)
  | .dead => false

def ROL (c : Ctx) (w : World) : (Nat → Prop) → List AV → List Value → Prop
  | F, [], [] => ∀ k, ¬ F k
  | F, x :: xs, v :: vs => ∃ F1 F2 : Nat → Prop, (RO c w F1 x v ∧ v.oneCell' = true) ∧ ROL c w F2 xs vs ∧ (∀ k, F1 k → ¬ F2 k) ∧ ∀ k, F k ↔ F1 k ∨ F2 k
  | _, _, _ => False
def ROTs (c : Ctx) (w : World) : (Nat → Prop) → List (Bool × List AV) → List Value → Prop
  | F, [], [] => ∀ k, ¬ F k
  | F, (false, [x]) :: xs, v :: vs => ∃ F1 F2 : Nat → Prop, (RO c w F1 x v ∧ v.oneCell' = true) ∧ ROTs c w F2 xs vs ∧ (∀ k, F1 k → ¬ F2 k) ∧ ∀ k, F k ↔ F1 k ∨ F2 k
  | F, (true, ys) :: xs, .agg us :: vs => ∃ F1 F2 : Nat → Prop, ROL c w F1 ys us.toList ∧ ROTs c w F2 xs vs ∧ (∀ k, F1 k → ¬ F2 k) ∧ ∀ k, F k ↔ F1 k ∨ F2 k
  | _, _, _ => False
def ROT' (c : Ctx) (w : World) (F : Nat → Prop) : T → Value → Prop
  | .one x, v => RO c w F x v ∧ v.oneCell' = true
  | .agg xs, .agg vs => ROL c w F xs vs.toList
  | .tup ts, .tuple vs => ROTs c w F ts vs.toList
  | _, _ => False

def Callable (P : Program) (f : FuncId) : Prop := ∃ fn, P.funcs[f]? = some fn ∧ fn.body.isNone = false ∧ (fn.name == "runtime.NumGoroutine") = false

def Fun1 (P : Program) (f : FuncId) (args : List T) (r : T) : Prop :=
  Callable P f ∧ r.nb = true ∧ ∀ (w : World) (I : Nat → Prop) (vs : Array Value), (∀ b, I b → b < w.heap.size) → GlW w I → RTL (c0 I) w args vs.toList →
    Calls P f vs w fun e w' => ∃ v F, e = .returned v ∧ ROT' (c0 I) w' F r v ∧ (∀ k, F k → w.heap.size ≤ k ∧ k < w'.heap.size) ∧ Bel w.heap.size w w'

def openAV (s : Nat) : AV → AV × News
  | .row true sz es => (.loc s 0 es.length, [(s, .row true sz es)])
  | x => (x, [])
def openL (s : Nat) : List AV → List AV × News
  | [] => ([], [])
  | x :: xs => ((openAV s x).1 :: (openL (s + 1) xs).1, (openAV s x).2 ++ (openL (s + 1) xs).2)
def openTs (s : Nat) : List (Bool × List AV) → List (Bool × List AV) × News
  | [] => ([], [])
  | (b, xs) :: ts => ((b, (openL s xs).1) :: (openTs (s + xs.length) ts).1, (openL s xs).2 ++ (openTs (s + xs.length) ts).2)
def openT (s : Nat) : T → T × News
  | .one x => (.one (openAV s x).1, (openAV s x).2)
  | .agg xs => (.agg (openL s xs).1, (openL s xs).2)
  | .tup ts => (.tup (openTs s ts).1, (openTs s ts).2)
  | .dead => (.dead, [])

def opCall (P : Program) (m : Nat → Option Blk) (K : T → News → Prop) (site : Nat) (f : T) (ts : List T) : Prop :=
  match f with
  | .one (.fn f caps) => ∃ us r, Fun1 P f us r ∧ LendTs m (ts ++ caps.map T.one) us ∧ K (openT site r).1 (openT site r).2
  | _ => False

section
variable {P : Program} {w0 w : World} {L : Nat → Prop} {n : Nat} {σ : AS} {a : Act} {c : Ctx} {F : Nat → Nat → Prop} {K : T → News → Prop}

theorem RO.nb {c c' : Ctx} {w : World} {F : Nat → Prop} {x : AV} {v : Value} (h : RO c w F x v) : ∀ k, x.nb k = true → RO c' w F x v := by
  induction h with
  | @plain F x v a1 a2 a3 =>
    intro k hk
    cases x <;> first | (cases k <;> simp [AV.nb] at hk; done) | skip
    · cases a2; exact .plain rfl (.lit _) a3
    · cases k with
      | zero => simp [AV.nb] at hk
      | succ k => simp [AV.isData] at a1; subst a1; simp [AV.nb] at hk
  | nil a => exact fun _ _ => .nil a
  | @own F sz es cap A b C e fz G a1 a2 a3 a4 a5 a6 a7 a8 a9 a10 a11 a12 a13 ih =>
    intro k hk
    cases k with
    | zero => simp [AV.nb] at hk
    | succ k =>
      refine .own b C e fz G a1 a2 a3 a4 a5 a6 a7 (fun i j x v hx hv => ih i j x v hx hv k ?_) a9 a10 a11 a12 a13
      simp only [AV.nb, List.all_eq_true] at hk
      unfold elt at hx
      cases he : es[i]? with
      | none => simp [he] at hx
      | some e => simp [he] at hx; exact hk e (List.mem_of_getElem? he) x (List.mem_of_getElem? hx)

theorem ROL.nb {c c' : Ctx} {w : World} : ∀ {F : Nat → Prop} {xs : List AV} {vs : List Value}, ROL c w F xs vs → xs.all (AV.nb 5) = true → ROL c' w F xs vs
  | _, [], [], h, _ => h
  | _, x :: xs, v :: vs, ⟨F1, F2, h1, h2, h3, h4⟩, h => by
    simp only [List.all_cons, Bool.and_eq_true] at h
    exact ⟨F1, F2, ⟨h1.1.nb 5 h.1, h1.2⟩, ROL.nb h2 h.2, h3, h4⟩
theorem ROTs.nb {c c' : Ctx} {w : World} : ∀ {F : Nat → Prop} {ts : List (Bool × List AV)} {vs : List Value}, ROTs c w F ts vs → (ts.all fun t => t.2.all (AV.nb 5)) = true → ROTs c' w F ts vs
  | _, [], [], h, _ => h
  | _, (false, [x]) :: xs, v :: vs, ⟨F1, F2, h1, h2, h3, h4⟩, h => by
    simp only [List.all_cons, Bool.and_eq_true, List.all_nil, Bool.and_true] at h
    exact ⟨F1, F2, ⟨h1.1.nb 5 h.1, h1.2⟩, ROTs.nb h2 h.2, h3, h4⟩
  | _, (true, ys) :: xs, .agg us :: vs, ⟨F1, F2, h1, h2, h3, h4⟩, h => by
    simp only [List.all_cons, Bool.and_eq_true] at h
    exact ⟨F1, F2, ROL.nb h1 h.1, ROTs.nb h2 h.2, h3, h4⟩
theorem ROT'.nb {c c' : Ctx} {w : World} {F : Nat → Prop} {t : T} {v : Value} (h : ROT' c w F t v) (hn : t.nb = true) : ROT' c' w F t v := by
  cases t with
  | dead => cases v <;> exact h.elim
  | one x => exact ⟨h.1.nb 5 hn, h.2⟩
  | agg xs => cases v <;> first | exact h.elim | exact ROL.nb h hn
  | tup ts => cases v <;> first | exact h.elim | exact ROTs.nb h hn

theorem ROL.mono {c c' : Ctx} {w w' : World} (h1 : ∀ s i, c.at_ s = some i → c'.at_ s = some i) (h2 : ∀ b, c.I b → c'.I b) (h3 : ∀ b, c.I b → w'.heap[b]? = w.heap[b]?) : ∀ {F : Nat → Prop} {xs : List AV} {vs : List Value}, ROL c w F xs vs → (∀ b, F b → w'.heap[b]? = w.heap[b]?) → ROL c' w' F xs vs
  | _, [], [], h, _ => h
  | _, x :: xs, v :: vs, ⟨F1, F2, h4, h5, h6, h7⟩, hF => ⟨F1, F2, ⟨h4.1.mono h1 h2 h3 fun b hb => hF b ((h7 b).2 (.inl hb)), h4.2⟩, ROL.mono h1 h2 h3 h5 (fun b hb => hF b ((h7 b).2 (.inr hb))), h6, h7⟩
theorem ROTs.mono {c c' : Ctx} {w w' : World} (h1 : ∀ s i, c.at_ s = some i → c'.at_ s = some i) (h2 : ∀ b, c.I b → c'.I b) (h3 : ∀ b, c.I b → w'.heap[b]? = w.heap[b]?) : ∀ {F : Nat → Prop} {xs : List (Bool × List AV)} {vs : List Value}, ROTs c w F xs vs → (∀ b, F b → w'.heap[b]? = w.heap[b]?) → ROTs c' w' F xs vs
  | _, [], [], h, _ => h
  | _, (false, [x]) :: xs, v :: vs, ⟨F1, F2, h4, h5, h6, h7⟩, hF => ⟨F1, F2, ⟨h4.1.mono h1 h2 h3 fun b hb => hF b ((h7 b).2 (.inl hb)), h4.2⟩, ROTs.mono h1 h2 h3 h5 (fun b hb => hF b ((h7 b).2 (.inr hb))), h6, h7⟩
  | _, (true, ys) :: xs, .agg us :: vs, ⟨F1, F2, h4, h5, h6, h7⟩, hF => ⟨F1, F2, ROL.mono h1 h2 h3 h4 (fun b hb => hF b ((h7 b).2 (.inl hb))), ROTs.mono h1 h2 h3 h5 (fun b hb => hF b ((h7 b).2 (.inr hb))), h6, h7⟩
theorem ROT'.mono {c c' : Ctx} {w w' : World} (h1 : ∀ s i, c.at_ s = some i → c'.at_ s = some i) (h2 : ∀ b, c.I b → c'.I b) (h3 : ∀ b, c.I b → w'.heap[b]? = w.heap[b]?) {F : Nat → Prop} {t : T} {v : Value} (h : ROT' c w F t v) (hF : ∀ b, F b → w'.heap[b]? = w.heap[b]?) : ROT' c' w' F t v := by
  cases t with
  | dead => cases v <;> exact h.elim
  | one x => exact ⟨h.1.mono h1 h2 h3 hF, h.2⟩
  | agg xs => cases v <;> first | exact h.elim | exact ROL.mono h1 h2 h3 h hF
  | tup ts => cases v <;> first | exact h.elim | exact ROTs.mono h1 h2 h3 h hF

theorem H.addSite' (h : H w0 L n σ a w c F) {s : Nat} {k : Blk} (hs : σ.mem s = none) {i : SI} {G : Nat → Prop}
    (hG : ∀ b, G b → (w0.heap.size ≤ b ∨ L b) ∧ b < w.heap.size ∧ ∀ s', ¬ F s' b) (hT : ∀ b, i.isTop b → G b → ¬ c.I b) (hk : BlkOk (c.add s i (fun b => G b ∧ ¬ i.isTop b)) w G s k) (hkp : k.isArg = false := by rfl) :
    H w0 L n (σ.add s k) a w (c.add s i (fun b => G b ∧ ¬ i.isTop b)) (fun s' b => (s' = s ∧ G b) ∨ F s' b) := by
  have hd := h.dom s hs
  obtain ⟨e1, e2⟩ := Ctx.add_ext hd.1 i (fun b => G b ∧ ¬ i.isTop b)
  have hF : (fun b => (s = s ∧ G b) ∨ F s b) = G := by funext b; simp [hd.2 b]
  have hns : ∀ s' b, s' ≠ s → ((s' = s ∧ G b) ∨ F s' b ↔ F s' b) := fun s' b hn => by simp [hn]
  refine ⟨h.keeps, h.size, h.defers, fun t => (h.tm t).mono e1 e2 (fun _ _ => rfl), fun s' k' hk' => ?_, fun s' hs' => ?_, fun s1 s2 b h1 h2 => ?_, fun s' b hb' => ?_, fun b hb' => ?_, fun s' b hb' => ?_, fun s' v x hs' => by
    by_cases e : s' = s
    · subst e; simp [AS.add] at hs'; subst hs'; cases hkp
    · simp [AS.add, e] at hs'; obtain ⟨q1, q2, q3⟩ := h.par s' v x hs'; exact ⟨q1, q2, fun k hk => .inl (q3 k hk)⟩, h.gl⟩
  · by_cases e : s' = s
    · subst e
      simp [AS.add] at hk'
      subst hk'
      rw [hF]; exact hk
    · simp [AS.add, e] at hk'
      have := (h.mem s' k' hk').mono e1 e2 (fun _ _ => rfl) (fun _ _ => rfl)
      rw [show (fun b => (s' = s ∧ G b) ∨ F s' b) = F s' from funext fun b => propext (hns s' b e)]
      exact this
  · have e : s' ≠ s := fun e => by subst e; simp [AS.add] at hs'
    simp [AS.add, e] at hs'
    have := h.dom s' hs'
    exact ⟨by simp [Ctx.add, e, this.1], fun b => by rw [hns s' b e]; exact this.2 b⟩
  · rcases h1 with ⟨rfl, h1⟩ | h1 <;> rcases h2 with ⟨rfl, h2⟩ | h2
    · rfl
    · exact absurd h2 ((hG b h1).2.2 _)
    · exact absurd h1 ((hG b h2).2.2 _)
    · exact h.disj _ _ _ h1 h2
  · rcases hb' with ⟨rfl, h1⟩ | h1
    · exact ⟨(hG b h1).1, (hG b h1).2.1⟩
    · exact h.new _ _ h1
  · rcases hb' with h1 | h1
    · exact h.imm _ h1
    · exact (hG b h1.1).2.1
  · by_cases e : s' = s
    · subst e
      have hg : G b := by rcases hb' with h1 | h1; exact h1.2; exact absurd h1 (hd.2 b)
      rw [Ctx.top_add_self]
      constructor
      · rintro (h1 | h1)
        · exact fun ht => hT b ht hg h1
        · exact h1.2
      · exact fun h1 => .inr ⟨hg, h1⟩
    · rw [Ctx.top_add_ne c e]
      have h1 : F s' b := (hns s' b e).1 hb'
      rw [← h.inn s' b h1]
      constructor
      · rintro (h2 | h2)
        · exact h2
        · exact absurd h1 ((hG b h2.1).2.2 _)
      · exact .inl

theorem adds_append (l1 l2 : News) : ∀ σ : AS, σ.adds (l1 ++ l2) = (σ.adds l1).adds l2 := by
  induction l1 with
  | nil => intro σ; rfl
  | cons x l ih => intro σ; obtain ⟨s, k⟩ := x; exact ih _

def Spare (w0 w : World) (c : Ctx) (F : Nat → Nat → Prop) (G : Nat → Prop) : Prop := ∀ b, G b → w0.heap.size ≤ b ∧ b < w.heap.size ∧ (∀ s', ¬ F s' b) ∧ ¬ c.I b

structure Grow (c c' : Ctx) (F F' : Nat → Nat → Prop) (G : Nat → Prop) : Prop where
  at_ : ∀ s i, c.at_ s = some i → c'.at_ s = some i
  I : ∀ b, c.I b → c'.I b
  F : ∀ s b, F' s b → F s b ∨ G b
  J : ∀ b, c'.I b → c.I b ∨ G b
theorem Grow.refl (c : Ctx) (F : Nat → Nat → Prop) (G : Nat → Prop) : Grow c c F F G := ⟨fun _ _ h => h, fun _ h => h, fun _ _ h => .inl h, fun _ h => .inl h⟩
theorem Grow.trans {c c' c'' : Ctx} {F F' F'' : Nat → Nat → Prop} {G G' G'' : Nat → Prop} (h : Grow c c' F F' G) (k : Grow c' c'' F' F'' G') (h1 : ∀ b, G b → G'' b) (h2 : ∀ b, G' b → G'' b) : Grow c c'' F F'' G'' :=
  ⟨fun s i hs => k.at_ s i (h.at_ s i hs), fun b hb => k.I b (h.I b hb), fun s b hb => (k.F s b hb).elim (fun h' => (h.F s b h').imp id (h1 b)) (fun h' => .inr (h2 b h')), fun b hb => (k.J b hb).elim (fun h' => (h.J b h').imp id (h1 b)) (fun h' => .inr (h2 b h'))⟩
theorem Spare.mono {c c' : Ctx} {F F' : Nat → Nat → Prop} {G G1 : Nat → Prop} (h : Spare w0 w c F G) (g : Grow c c' F F' G1) (hd : ∀ b, G b → ¬ G1 b) : Spare w0 w c' F' G :=
  fun b hb => ⟨(h b hb).1, (h b hb).2.1, fun s hs => (g.F s b hs).elim ((h b hb).2.2.1 s) (hd b hb), fun hI => (g.J b hI).elim (h b hb).2.2.2 (hd b hb)⟩

theorem openAV_ok (h : H w0 L n σ a w c F) {s : Nat} {x : AV} {v : Value} {G : Nat → Prop} (hG : Spare w0 w c F G) (hf : Fresh σ.mem (openAV s x).2) (hX : RO c w G x v) :
    ∃ c' F', H w0 L n (σ.adds (openAV s x).2) a w c' F' ∧ R c' w (openAV s x).1 v ∧ Grow c c' F F' G := by
  by_cases hx : ∃ sz es, x = .row true sz es
  · obtain ⟨sz, es, rfl⟩ := hx
    have hs : σ.mem s = none := hf _ (List.mem_singleton.2 rfl)
    have hd := h.dom s hs
    rcases hX.inv with ⟨rfl, rfl, hn⟩ | ⟨b, cap, A, rfl, hA13, hB⟩
    · refine ⟨_, _, h.addSite' (i := .nil) (G := G) hs (fun b hb => ⟨.inl (hG b hb).1, (hG b hb).2.1, (hG b hb).2.2.1⟩) (fun b _ hb => (hG b hb).2.2.2) (.inl ⟨by simp [Ctx.add], rfl, hn⟩), .locnil (by simp [Ctx.add]), ?_⟩
      exact ⟨(Ctx.add_ext hd.1 _ _).1, (Ctx.add_ext hd.1 _ _).2, fun s' b hb => hb.elim (fun h => .inr h.2) .inl, fun b hb => hb.elim .inl (fun h => .inr h.1)⟩
    · have hB' := hB
      obtain ⟨C, e, fz, G', a1, a2, a3, a4, a5, a6, a7, a8, a9, a10, a11, a12⟩ := hB'
      obtain ⟨e1, e2⟩ := Ctx.add_ext hd.1 (.row b cap sz) (fun k => G k ∧ ¬ (SI.row b cap sz).isTop k)
      refine ⟨_, _, h.addSite' (i := .row b cap sz) (G := G) hs (fun b hb => ⟨.inl (hG b hb).1, (hG b hb).2.1, (hG b hb).2.2.1⟩) (fun b _ hb => (hG b hb).2.2.2) (.inr ⟨b, cap, by simp [Ctx.add], hB.mono e1 e2 (fun _ _ => rfl) (fun _ _ => rfl)⟩), ?_, ?_⟩
      · have := R.loc (c := c.add s (.row b cap sz) (fun k => G k ∧ ¬ (SI.row b cap sz).isTop k)) (w := w) (s := s) (off := 0) (len := es.length) (b := b) (cap := cap) (sz := sz) (A := A) (by simp [Ctx.add]) (by omega) (fun h0 => by simpa using hA13 h0)
        show R _ w (.loc s 0 es.length) _
        simpa using this
      · exact ⟨e1, e2, fun s' b hb => hb.elim (fun h => .inr h.2) .inl, fun b hb => hb.elim .inl (fun h => .inr h.1)⟩
  · have ho : openAV s x = (x, []) := by
      cases x <;> first | rfl | skip
      rename_i own sz es
      cases own
      · rfl
      · exact absurd ⟨sz, es, rfl⟩ hx
    rw [ho]
    refine ⟨c, F, h, ?_, Grow.refl _ _ _⟩
    cases hX with
    | plain _ h1 _ => exact h1
    | nil => exact absurd ⟨_, _, rfl⟩ hx
    | own => exact absurd ⟨_, _, rfl⟩ hx

theorem adds_mem_ne {l : News} {s : Nat} (h : ∀ x ∈ l, x.1 ≠ s) : ∀ {σ : AS}, (σ.adds l).mem s = σ.mem s := by
  induction l with
  | nil => intro σ; rfl
  | cons x l ih =>
    intro σ
    obtain ⟨s', k⟩ := x
    simp only [AS.adds]
    rw [ih (fun y hy => h y (by simp [hy]))]
    have : s ≠ s' := fun e => h (s', k) (by simp) e.symm
    simp [AS.add, this]

theorem openAV_sites {s : Nat} {x : AV} : ∀ y ∈ (openAV s x).2, y.1 = s := by
  intro y hy
  unfold openAV at hy
  split at hy <;> simp at hy
  rw [hy]
theorem openL_sites : ∀ {xs : List AV} {s : Nat}, ∀ y ∈ (openL s xs).2, s ≤ y.1 ∧ y.1 < s + xs.length
  | [], s, y, hy => by simp [openL] at hy
  | x :: xs, s, y, hy => by
    simp only [openL, List.mem_append] at hy
    rcases hy with hy | hy
    · have := openAV_sites y hy; simp; omega
    · have := openL_sites y hy; simp; omega
theorem Fresh.left {m : Nat → Option Blk} {l1 l2 : News} (h : Fresh m (l1 ++ l2)) : Fresh m l1 := fun x hx => h x (by simp [hx])
theorem Fresh.right {l1 l2 : News} (h : Fresh σ.mem (l1 ++ l2)) (hd : ∀ x ∈ l1, ∀ y ∈ l2, x.1 ≠ y.1) : Fresh (σ.adds l1).mem l2 := fun y hy => by
  rw [adds_mem_ne fun x hx => hd x hx y hy]
  exact h y (by simp [hy])

theorem openL_ok : ∀ {xs : List AV} {vs : List Value} {σ : AS} {c : Ctx} {F : Nat → Nat → Prop} {s : Nat} {G : Nat → Prop}, H w0 L n σ a w c F → Spare w0 w c F G → Fresh σ.mem (openL s xs).2 → ROL c w G xs vs →
    ∃ c' F', H w0 L n (σ.adds (openL s xs).2) a w c' F' ∧ RL c' w (openL s xs).1 vs ∧ Grow c c' F F' G
  | [], [], σ, c, F, s, G, h, hG, hf, hX => ⟨c, F, h, trivial, Grow.refl _ _ _⟩
  | x :: xs, v :: vs, σ, c, F, s, G, h, hG, hf, ⟨F1, F2, h1, h2, h3, h4⟩ => by
    obtain ⟨c1, F', h5, h6, h7⟩ := openAV_ok (s := s) h (fun b hb => hG b ((h4 b).2 (.inl hb))) hf.left h1.1
    have hd : ∀ x' ∈ (openAV s x).2, ∀ y ∈ (openL (s + 1) xs).2, x'.1 ≠ y.1 := fun x' hx y hy => by
      have := openAV_sites x' hx; have := openL_sites y hy; omega
    have hG2 : Spare w0 w c1 F' F2 := Spare.mono (fun b hb => hG b ((h4 b).2 (.inr hb))) h7 (fun b hb hb1 => h3 b hb1 hb)
    obtain ⟨c2, F'', h8, h9, h10⟩ := openL_ok (s := s + 1) h5 hG2 (hf.right hd) (h2.mono h7.at_ h7.I (fun _ _ => rfl) (fun _ _ => rfl))
    refine ⟨c2, F'', ?_, ⟨⟨h6.mono h10.at_ h10.I (fun _ _ => rfl), h1.2⟩, h9⟩, h7.trans h10 (fun b hb => (h4 b).2 (.inl hb)) (fun b hb => (h4 b).2 (.inr hb))⟩
    simp only [openL, adds_append]
    exact h8

theorem openTs_sites : ∀ {ts : List (Bool × List AV)} {s : Nat}, ∀ y ∈ (openTs s ts).2, s ≤ y.1
  | [], s, y, hy => by simp [openTs] at hy
  | (b, xs) :: ts, s, y, hy => by
    simp only [openTs, List.mem_append] at hy
    rcases hy with hy | hy
    · exact (openL_sites y hy).1
    · have := openTs_sites y hy; omega

theorem openTs_ok : ∀ {ts : List (Bool × List AV)} {vs : List Value} {σ : AS} {c : Ctx} {F : Nat → Nat → Prop} {s : Nat} {G : Nat → Prop}, H w0 L n σ a w c F → Spare w0 w c F G → Fresh σ.mem (openTs s ts).2 → ROTs c w G ts vs →
    ∃ c' F', H w0 L n (σ.adds (openTs s ts).2) a w c' F' ∧ RTs c' w (openTs s ts).1 vs ∧ Grow c c' F F' G
  | [], [], σ, c, F, s, G, h, hG, hf, hX => ⟨c, F, h, trivial, Grow.refl _ _ _⟩
  | (false, [x]) :: ts, v :: vs, σ, c, F, s, G, h, hG, hf, ⟨F1, F2, h1, h2, h3, h4⟩ => by
    simp only [openTs, openL, List.append_nil, List.length_cons, List.length_nil, Nat.zero_add] at hf ⊢
    obtain ⟨c1, F', h5, h6, h7⟩ := openAV_ok (s := s) h (fun b hb => hG b ((h4 b).2 (.inl hb))) hf.left h1.1
    have hd : ∀ x' ∈ (openAV s x).2, ∀ y ∈ (openTs (s + 1) ts).2, x'.1 ≠ y.1 := fun x' hx y hy => by
      have := openAV_sites x' hx; have := openTs_sites y hy; omega
    have hG2 : Spare w0 w c1 F' F2 := Spare.mono (fun b hb => hG b ((h4 b).2 (.inr hb))) h7 (fun b hb hb1 => h3 b hb1 hb)
    obtain ⟨c2, F'', h8, h9, h10⟩ := openTs_ok (s := s + 1) h5 hG2 (hf.right hd) (h2.mono h7.at_ h7.I (fun _ _ => rfl) (fun _ _ => rfl))
    refine ⟨c2, F'', ?_, ⟨⟨h6.mono h10.at_ h10.I (fun _ _ => rfl), h1.2⟩, h9⟩, h7.trans h10 (fun b hb => (h4 b).2 (.inl hb)) (fun b hb => (h4 b).2 (.inr hb))⟩
    rw [adds_append]
    exact h8
  | (true, ys) :: ts, .agg us :: vs, σ, c, F, s, G, h, hG, hf, ⟨F1, F2, h1, h2, h3, h4⟩ => by
    simp only [openTs] at hf ⊢
    obtain ⟨c1, F', h5, h6, h7⟩ := openL_ok (s := s) h (fun b hb => hG b ((h4 b).2 (.inl hb))) hf.left h1
    have hd : ∀ x' ∈ (openL s ys).2, ∀ y ∈ (openTs (s + ys.length) ts).2, x'.1 ≠ y.1 := fun x' hx y hy => by
      have := openL_sites x' hx; have := openTs_sites y hy; omega
    have hG2 : Spare w0 w c1 F' F2 := Spare.mono (fun b hb => hG b ((h4 b).2 (.inr hb))) h7 (fun b hb hb1 => h3 b hb1 hb)
    obtain ⟨c2, F'', h8, h9, h10⟩ := openTs_ok (s := s + ys.length) h5 hG2 (hf.right hd) (h2.mono h7.at_ h7.I (fun _ _ => rfl) (fun _ _ => rfl))
    refine ⟨c2, F'', ?_, ⟨RL.mono h10.at_ h10.I (fun _ _ => rfl) h6, h9⟩, h7.trans h10 (fun b hb => (h4 b).2 (.inl hb)) (fun b hb => (h4 b).2 (.inr hb))⟩
    rw [adds_append]
    exact h8

theorem openT_ok (h : H w0 L n σ a w c F) {s : Nat} {t : T} {v : Value} {G : Nat → Prop} (hG : Spare w0 w c F G) (hf : Fresh σ.mem (openT s t).2) (hX : ROT' c w G t v) :
    Post w0 L n σ a (openT s t).2 (openT s t).1 v w := by
  cases t with
  | dead => cases v <;> exact hX.elim
  | one x =>
    obtain ⟨c', F', h1, h2, h3⟩ := openAV_ok (s := s) h hG hf hX.1
    exact ⟨c', F', h1, h2, hX.2⟩
  | agg xs =>
    cases v <;> try exact hX.elim
    obtain ⟨c', F', h1, h2, h3⟩ := openL_ok (s := s) h hG hf hX
    exact ⟨c', F', h1, h2⟩
  | tup ts =>
    cases v <;> try exact hX.elim
    obtain ⟨c', F', h1, h2, h3⟩ := openTs_ok (s := s) h hG hf hX
    exact ⟨c', F', h1, h2⟩

theorem RTL.append : ∀ {c : Ctx} {xs ys : List T} {vs us : List Value}, RTL c w xs vs → RTL c w ys us → RTL c w (xs ++ ys) (vs ++ us)
  | _, [], _, [], _, _, h => h
  | _, _ :: _, _, _ :: _, _, h, k => ⟨h.1, RTL.append h.2 k⟩
theorem RTL.lend (h : H w0 L n σ a w c F) {m : Nat → Option Blk} (hm : Sup σ m) : ∀ {ts us : List T} {vs : List Value}, RTL c w ts vs → LendTs m ts us → RTL (c0 (lentI0 c F (oldB w0 L))) w us vs
  | [], [], [], _, _ => trivial
  | _ :: _, _ :: _, _ :: _, hX, hl => ⟨lendT_ok h hm hX.1 hl.1, RTL.lend h hm hX.2 hl.2⟩

theorem opCall_ok (h : H w0 L n σ a w c F) {m : Nat → Option Blk} (hm : Sup σ m) {site : Nat} {f : T} {ts : List T} {X : Value} {vs : List Value} (hX : RT c w f X) (hts : RTL c w ts vs) (hk : opCall P m K site f ts) :
    ∃ v news, K v news ∧ (Fresh σ.mem news → ∃ g cs, X = .func (.func g) #[] cs ∧ Callable P g ∧ Calls P g (vs.toArray ++ cs) w fun e w' => ∃ V, e = .returned V ∧ Post w0 L n σ a news v V w') := by
  unfold opCall at hk
  split at hk
  case h_2 => exact hk.elim
  rename_i g caps
  obtain ⟨us, r, hfun, hlend, hk⟩ := hk
  refine ⟨_, _, hk, fun hf => ?_⟩
  obtain ⟨hX, _⟩ := hX
  cases hX with | @fn _ _ cs a1 a0 a2 =>
  have hcaps : RTL c w (caps.map T.one) cs.toList := by
    have key : ∀ (xs : List AV) (us : List Value), xs.length = us.length → (∀ (k : Nat) (x : AV) (v : Value), xs[k]? = some x → us[k]? = some v → R c w x v) → (∀ v ∈ us, v.oneCell' = true) → RTL c w (xs.map T.one) us := by
      intro xs
      induction xs with
      | nil => intro us hl _ _; cases us with | nil => trivial | cons => simp at hl
      | cons x xs ih =>
        intro us hl hr ho
        cases us with
        | nil => simp at hl
        | cons u us => exact ⟨⟨hr 0 x u rfl rfl, ho u (by simp)⟩, ih us (by simpa using hl) (fun k x v hx hv => hr (k + 1) x v (by simpa using hx) (by simpa using hv)) (fun v hv => ho v (by simp [hv]))⟩
    exact key caps cs.toList (by simpa using a1.symm) (fun k x v hx hv => a2 k x v hx (by simpa using hv)) a0
  refine ⟨g, cs, rfl, hfun.1, ?_⟩
  have hargs := hts.append hcaps
  have fin : ∀ w' (G : Nat → Prop) v, Bel w.heap.size w w' → ROT' c w' G r v → (∀ k, G k → w.heap.size ≤ k ∧ k < w'.heap.size) → Post w0 L n σ a (openT site r).2 (openT site r).1 v w' := fun w' G v hb hr hG => by
    refine openT_ok (h.world hb) (fun b hb' => ?_) hf hr
    have := hG b hb'
    exact ⟨Nat.le_trans h.keeps.size this.1, this.2, fun s hs => by have := (h.new s b hs).2; omega, fun hI => by have := h.imm b hI; omega⟩
  have := hfun.2.2 w (lentI0 c F (oldB w0 L)) (vs.toArray ++ cs) (fun b hb => by
    rcases hb with hb | ⟨s, hb⟩ | hb
    · exact h.imm b hb
    · exact (h.new s b hb).2
    · exact Nat.lt_of_lt_of_le hb.1 h.keeps.size) h.glw (by simpa using RTL.lend h hm hargs hlend)
  refine this.mono ?_
  rintro e w' ⟨v, G, rfl, hr, hG, hb⟩
  exact ⟨v, rfl, fin w' G v hb (hr.nb hfun.2.1) hG⟩
end
end Go.Proofs.YtjajnladldchcaaDoor
namespace Go.Proofs.YtjajnladldchcaaDoor
open Go.RowKit
set_option linter.unusedSimpArgs false
set_option linter.unusedVariables false

def opEqs (P : Program) (K : T → News → Prop) (op : BinOp) (t : TypeId) (xs ys : List AV) : Prop :=
  ∃ (X Y : List Value) (b : Bool), xs = X.map .lit ∧ ys = Y.map .lit ∧ P.eqGuardType P.depth t = false ∧ (∀ w : World, (binOp op t (.agg X.toArray) (.agg Y.toArray)).run P w = .ok (.bool b) w) ∧ K (.one (.lit (.bool b))) []
def getM : List (ByteArray × Value) → ByteArray → Option Value
  | [], _ => none
  | p :: es, s => if p.1 = s then some p.2 else getM es s
def upM : List (ByteArray × Value) → ByteArray → Value → List (ByteArray × Value)
  | [], s, u => [(s, u)]
  | p :: es, s, u => if p.1 = s then (s, u) :: es else p :: upM es s u
def tOf : Value → T
  | .agg cs => .agg (cs.toList.map .lit)
  | v => .one (.lit v)
def tpOf : Value → Bool × List AV
  | .agg cs => (true, cs.toList.map .lit)
  | v => (false, [.lit v])
def opLookup (P : Program) (m : Nat → Option Blk) (K : T → News → Prop) (t : TypeId) (x k : T) (ok : Bool) : Prop :=
  match x, k with
  | .one (.lit (.map (some b))), .one (.lit (.string s)) => ∃ kt vt p es z v, P.underlying t = some (.map kt vt) ∧ P.underlying kt = some .string ∧ m p = some (.mapb b es) ∧ (P.info? vt).bind (·.zero) = some z ∧ vOk z = true ∧ (getM es s).getD z = v ∧
      K (match ok with
        | true => .tup [tpOf v, (false, [.lit (.bool (getM es s).isSome)])]
        | false => tOf v) []
  | _, _ => False
def opn (P : Program) (E : Tab) (site : Nat) (op : Op) (g : Operand → T) (m : Nat → Option Blk) (K : T → News → Prop) : Prop :=
  match op with
  | .move x => K (g x) []
  | .assign x => K (g x) []
  | .pick c a b => opPick K (g c) (g a) (g b)
  | .alloc t => opAlloc E K site t
  | .box _ x => opBox K site (g x)
  | .build t ps => opBuild E K t (ps.toList.map fun p => (p.1, g p.2))
  | .buildSlice t len ps => opBuildSlice E K site t len (ps.toList.map fun p => (p.1, g p.2))
  | .load t x => opLoad E m K t (g x)
  | .nilCheck x => opNilCheck K (g x)
  | .binOp o t x y _ => match g x, g y with
    | .agg xs, .agg ys => opEqs P K o t xs ys
    | u, v => opBin E K o t u v
  | .unOp o _ x => opUn K o (g x)
  | .convert s d x => opConv2 E m K site s d (g x)
  | .makeFunc fn first caps => opMakeFunc K fn first.size (caps.toList.map g)
  | .makeSlice t l c => opMakeSlice E K site t (g l) (g c)
  | .slice t x lo hi none => opSlice E m K t (g x) (lo.map g) (hi.map g)
  | .fieldAddr s x f => opFieldAddr E K s f (g x)
  | .field s x f => opField E K s f (g x)
  | .indexAddr t x i => opIndexAddr E m K t (g x) (g i)
  | .index t x i => opIndex E K t (g x) (g i)
  | .extract x i => opExtract K (g x) i
  | .lookup t x k ok => opLookup P m K t (g x) (g k) ok
  | .call c => match c.callee with
    | .builtin .len => match c.args.toList, c.argTypes.toList with
      | [x], [t] => opLen E K t (g x)
      | _, _ => False
    | .builtin .max => match c.args.toList with
      | [x, y] => opMinMax K true (g x) (g y)
      | _ => False
    | .builtin .min => match c.args.toList with
      | [x, y] => opMinMax K false (g x) (g y)
      | _ => False
    | .value f => opCall P m K site (g f) (c.args.toList.map g)
    | _ => False
  | _ => False

def siteOf (o : Oper) : Nat := o.dst.getD 0 * 16

section
variable {P : Program} {w0 w : World} {L : Nat → Prop} {n : Nat} {σ : AS} {a : Act} {c : Ctx} {F : Nat → Nat → Prop} {K : T → News → Prop}

theorem wp_value {o : Oper} {a : Act} {w w' : World} {V : Value} {K' : Act → World → Prop} {Q : Exit → Act → World → Prop} {s : Sem Value} (he : execOp a.eval o = (do pure (.value (← s)) : Sem Next)) (hr : s.run P w = .ok V w') (h : K' (a.put o.dst V) w') : o.wp P a w K' Q := by
  unfold Oper.wp
  rw [he]
  simp only [Sem.run_bind, hr, Result.andThen_ok, Sem.run_pure]
  exact h

theorem RL.lits_eq : ∀ {pre : List Value} {vs : List Value}, RL c w (pre.map .lit) vs → vs = pre ∧ pre.all (·.oneCell') = true
  | [], [], _ => ⟨rfl, rfl⟩
  | p :: pre, v :: vs, h => by
    obtain ⟨⟨h1, h2⟩, h3⟩ := h
    cases h1
    obtain ⟨rfl, h5⟩ := RL.lits_eq h3
    exact ⟨rfl, by simp [h2, h5]⟩
theorem opEqs_ok {o : Oper} {op : BinOp} {t ty : TypeId} {x y : Operand} {xs ys : List AV} (ho : o.op = .binOp op t x y ty) (hX : RT c w (.agg xs) (a.eval x)) (hY : RT c w (.agg ys) (a.eval y)) (hk : opEqs P K op t xs ys) :
    ∃ b, K (.one (.lit (.bool b))) [] ∧ ∀ w' : World, (execOp a.eval o).run P w' = .ok (.value (.bool b)) w' := by
  obtain ⟨X, Y, b, rfl, rfl, hg, hrun, hk⟩ := hk
  refine ⟨b, hk, fun w' => ?_⟩
  generalize hx : a.eval x = VX at hX
  generalize hy : a.eval y = VY at hY
  cases VX <;> try exact hX.elim
  rename_i cx
  cases VY <;> try exact hY.elim
  rename_i cy
  have e1 : cx = X.toArray := by rw [← (RL.lits_eq hX).1]
  have e2 : cy = Y.toArray := by rw [← (RL.lits_eq hY).1]
  subst e1 e2
  unfold execOp
  simp only [ho, hx, hy, Sem.run_bind, run_eqGuard_agg w' op t x y X.toArray Y.toArray hg, Result.andThen_ok, hrun, Sem.run_pure]

theorem RTL.map (h : H w0 L n σ a w c F) : ∀ l : List Operand, RTL c w (l.map σ.get) (l.map a.eval)
  | [] => trivial
  | x :: l => ⟨h.get x, RTL.map h l⟩
theorem RTN.map (h : H w0 L n σ a w c F) : ∀ l : List (Nat × Operand), RTN c w (l.map fun p => (p.1, σ.get p.2)) (l.map fun p => (p.1, a.eval p.2))
  | [] => trivial
  | x :: l => ⟨rfl, h.get x.2, RTN.map h l⟩
theorem ROT.map (h : H w0 L n σ a w c F) (o : Option Operand) : ROT c w (o.map σ.get) (o.map a.eval) := by
  cases o with
  | none => trivial
  | some x => exact h.get x

theorem eqGuard_lit {op : BinOp} {t : TypeId} {x y : Operand} {X Y : Value} (hX : (∃ k n, X = .int k n) ∨ (∃ s, X = .string s) ∨ (∃ b, X = .bool b) ∨ ∃ a n c, X = .slice a n c) : eqGuard op t x y X Y = pure () := by
  rcases hX with ⟨k, n, rfl⟩ | ⟨s, rfl⟩ | ⟨b, rfl⟩ | ⟨s, n, k, rfl⟩
  · exact eqGuard_at_int (op := op) (t := t) (x := x) (y := y) (v := Y) k n
  · exact eqGuard_at_string (op := op) (t := t) (x := x) (y := y) (v := Y) s
  · exact eqGuard_at_bool (op := op) (t := t) (x := x) (y := y) (v := Y) b
  · exact eqGuard_at_slice (op := op) (t := t) (x := x) (y := y) (v := Y) s n k

theorem run_call {f : FuncId} {args cs : Array Value} (h : Callable P f) (a : Act) (ff : Operand) (c : Call) (o : Oper) (hop : o.op = .call c) (hc : c.callee = .value ff) (hf : a.eval ff = .func (.func f) #[] cs) (hargs : c.args.map a.eval = args) :
    (execOp a.eval o).run P w = .ok (.enter f (args ++ cs)) w := by
  obtain ⟨fn, h1, h2, h3⟩ := h
  unfold execOp
  simp only [hop, resolve, hc, hf, Deferred.ofValue, Sem.run_bind, Sem.run_pure, Result.andThen_ok, hargs, invoke, callFunc, run_program, h1, h3, h2, Array.empty_append]
  simp

theorem getM_mem : ∀ {es : List (ByteArray × Value)} {s : ByteArray} {v : Value}, getM es s = some v → ∃ p ∈ es, p.2 = v
  | [], _, _, h => by cases h
  | p :: es, s, v, h => by
    simp only [getM] at h
    split at h
    · cases h; exact ⟨p, by simp, rfl⟩
    · obtain ⟨q, h1, h2⟩ := getM_mem h; exact ⟨q, by simp [h1], h2⟩
theorem find_getM (s : ByteArray) : ∀ (l : List MapEntry) (es : List (ByteArray × Value)) (i : Nat), l.map (fun e => (e.key, e.val)) = es.map (fun p => (Value.string p.1, p.2)) →
    (Instr.findNow .string (.string s) l i = some none ∧ getM es s = none ∧ ∀ u, upM es s u = es ++ [(s, u)]) ∨
    ∃ j e, Instr.findNow .string (.string s) l i = some (some (i + j, e.val)) ∧ l[j]? = some e ∧ e.key = .string s ∧ getM es s = some e.val ∧ ∀ u, upM es s u = es.set j (s, u)
  | [], [], i, _ => .inl ⟨rfl, rfl, fun _ => rfl⟩
  | e :: l, p :: es, i, h => by
    simp only [List.map_cons, List.cons.injEq, Prod.mk.injEq] at h
    obtain ⟨⟨h1, h2⟩, h3⟩ := h
    have hs : Instr.sameNow .string (.string s) e.key = some (s == p.1) := by rw [h1]; rfl
    by_cases hp : p.1 = s
    · have hb : (s == p.1) = true := by rw [hp]; exact (MapKept.bytes_beq s s).2 rfl
      refine .inr ⟨0, e, ?_, rfl, by rw [h1, hp], ?_, fun u => ?_⟩
      · simp [Instr.findNow, hs, hb]
      · simp [getM, hp, h2]
      · simp [upM, hp]
    · have hb : (s == p.1) = false := by
        cases hq : (s == p.1) with
        | false => rfl
        | true => exact absurd ((MapKept.bytes_beq _ _).1 hq).symm hp
      rcases find_getM s l es (i + 1) h3 with ⟨a1, a2, a3⟩ | ⟨j, e', a1, a2, a3, a4, a5⟩
      · refine .inl ⟨?_, ?_, fun u => ?_⟩
        · simp [Instr.findNow, hs, hb, a1]
        · simp [getM, hp, a2]
        · simp [upM, hp, a3]
      · refine .inr ⟨j + 1, e', ?_, by simpa using a2, a3, ?_, fun u => ?_⟩
        · simp [Instr.findNow, hs, hb, a1]; omega
        · simp [getM, hp, a4]
        · simp [upM, hp, a5]
theorem run_zero {t : TypeId} {z : Value} (h : (P.info? t).bind (·.zero) = some z) (w : World) : (zeroValue t).run P w = .ok z w := by
  cases hi : P.info? t with
  | none => rw [hi] at h; cases h
  | some i =>
    rw [hi] at h
    simp only [Option.bind_some] at h
    simp [zeroValue, typeInfo, hi, h, Result.andThen]
theorem RL_lits : ∀ (l : List Value), l.all (·.oneCell') = true → RL c w (l.map .lit) l
  | [], _ => trivial
  | v :: l, h => by
    simp only [List.all_cons, Bool.and_eq_true] at h
    exact ⟨⟨.lit v, h.1⟩, RL_lits l h.2⟩
theorem RT_tOf {v : Value} (h : vOk v = true) : RT c w (tOf v) v := by
  have one : ∀ v : Value, v.oneCell' = true → RT c w (.one (.lit v)) v := fun v h => RT_lit _ h
  cases v <;> first | exact one _ h | skip
  rename_i cs
  exact RL_lits _ h
theorem RTs_tpOf {v : Value} (h : vOk v = true) {ts : List (Bool × List AV)} {vs : List Value} (hr : RTs c w ts vs) : RTs c w (tpOf v :: ts) (v :: vs) := by
  have one : ∀ v : Value, v.oneCell' = true → RTs c w ((false, [.lit v]) :: ts) (v :: vs) := fun v h => ⟨⟨.lit v, h⟩, hr⟩
  cases v <;> first | exact one _ h | skip
  rename_i cs
  exact ⟨RL_lits _ h, hr⟩
theorem opLookup_ok {m : Nat → Option Blk} (h : H w0 L n σ a w c F) (hm : Sup σ m) {t : TypeId} {x k : T} {X Y : Value} {ok : Bool} (hX : RT c w x X) (hY : RT c w k Y) (hk : opLookup P m K t x k ok) :
    ∃ v V, K v [] ∧ (Instr.lookup t X Y ok).run P w = .ok V w ∧ RT c w v V := by
  unfold opLookup at hk
  split at hk
  case h_2 => exact hk.elim
  rename_i b s
  obtain ⟨kt, vt, p, es, z, v, h1, h2, h3, h4, h5, rfl, h7⟩ := hk
  have := one_lit hX; subst this
  have := one_lit hY; subst this
  obtain ⟨_, ⟨ents, ck, a2, a3, a4⟩, _⟩ := h.mem p _ (hm.2 p _ rfl h3)
  have hv : vOk ((getM es s).getD z) = true := by
    cases hg : getM es s with
    | none => exact h5
    | some v =>
      obtain ⟨q, q1, q2⟩ := getM_mem hg
      have := List.all_eq_true.1 a4 q q1
      rw [q2] at this; exact this
  have hrun : (Instr.lookup t (.map (some b)) (.string s) ok).run P w = .ok (if ok then .tuple #[(getM es s).getD z, .bool (getM es s).isSome] else (getM es s).getD z) w := by
    unfold Instr.lookup
    simp only [Sem.run_bind, MapKept.run_getObj_map a2, run_underlying h1, Result.andThen_ok, Sem.run_pure]
    rw [MapKept.run_checkKey h2 (k := .string s) trivial]
    simp only [Result.andThen_ok]
    rcases find_getM s ents.toList es 0 a3 with ⟨b1, b2, _⟩ | ⟨j, e, b1, b2, b3, b4, _⟩
    · rw [MapKept.run_findKey h2 b1]
      simp only [Result.andThen_ok, Sem.run_bind, run_zero h4, Sem.run_pure, b2, Option.getD_none, Option.isSome_none]
    · rw [MapKept.run_findKey h2 b1]
      simp only [Result.andThen_ok, Sem.run_bind, Sem.run_pure, b4, Option.getD_some, Option.isSome_some]
  refine ⟨_, _, h7, hrun, ?_⟩
  cases ok
  · exact RT_tOf hv
  · exact RTs_tpOf hv ⟨⟨.lit _, rfl⟩, trivial⟩

theorem opn_ok {E : Tab} (hE : E.ok P) (h : H w0 L n σ a w c F) {m : Nat → Option Blk} (hm : Sup σ m) {o : Oper} {site : Nat} (hk : opn P E site o.op σ.get m K) :
    ∃ v news, K v news ∧ (Fresh σ.mem news → ∀ (K' : Act → World → Prop) (Q : Exit → Act → World → Prop), (∀ V w', Post w0 L n σ a news v V w' → K' (a.put o.dst V) w') → o.wp P a w K' Q) := by
  have pureOp : ∀ {s : Sem Value}, execOp a.eval o = (do pure (.value (← s)) : Sem Next) → (∃ v V, K v [] ∧ s.run P w = .ok V w ∧ RT c w v V) →
      ∃ v news, K v news ∧ (Fresh σ.mem news → ∀ (K' : Act → World → Prop) (Q : Exit → Act → World → Prop), (∀ V w', Post w0 L n σ a news v V w' → K' (a.put o.dst V) w') → o.wp P a w K' Q) := by
    intro s he ⟨v, V, h1, h2, h3⟩
    exact ⟨v, [], h1, fun _ K' Q hK => wp_value he h2 (hK V w ⟨c, F, h, h3⟩)⟩
  have makeOp : ∀ {s : Sem Value}, execOp a.eval o = (do pure (.value (← s)) : Sem Next) → (∃ v news, K v news ∧ (Fresh σ.mem news → ∃ V w', s.run P w = .ok V w' ∧ Post w0 L n σ a news v V w')) →
      ∃ v news, K v news ∧ (Fresh σ.mem news → ∀ (K' : Act → World → Prop) (Q : Exit → Act → World → Prop), (∀ V w', Post w0 L n σ a news v V w' → K' (a.put o.dst V) w') → o.wp P a w K' Q) := by
    intro s he ⟨v, news, h1, h2⟩
    exact ⟨v, news, h1, fun hf K' Q hK => by obtain ⟨V, w', h3, h4⟩ := h2 hf; exact wp_value he h3 (hK V w' h4)⟩
  unfold opn at hk
  split at hk
  · rename_i x ho
    exact pureOp (s := pure (a.eval x)) (by simp [execOp, ho]) ⟨_, _, hk, rfl, h.get x⟩
  · rename_i x ho
    exact pureOp (s := pure (a.eval x)) (by simp [execOp, ho]) ⟨_, _, hk, rfl, h.get x⟩
  · rename_i x y z ho
    unfold opPick at hk
    split at hk
    case h_2 => exact hk.elim
    rename_i cb hc
    have h1 := h.get x
    rw [hc] at h1
    have h2 := one_lit h1
    cases cb
    · exact pureOp (s := pure (a.eval z)) (by simp [execOp, ho, h2, asBool]) ⟨_, _, hk, rfl, h.get z⟩
    · exact pureOp (s := pure (a.eval y)) (by simp [execOp, ho, h2, asBool]) ⟨_, _, hk, rfl, h.get y⟩
  · rename_i t ho
    exact makeOp (s := Instr.alloc t true undef) (by simp [execOp, ho, undef]) (opAlloc_ok hE h hk)
  · rename_i t x ho
    exact makeOp (s := Instr.box t (a.eval x)) (by simp [execOp, ho]) (opBox_ok h (h.get x) hk)
  · rename_i t ps ho
    refine pureOp (s := Instr.build t (ps.toList.map fun p => (p.1, a.eval p.2)).toArray) (by simp [execOp, ho]; congr 1; congr 1; apply Array.ext'; simp) (opBuild_ok hE (RTN.map h ps.toList) hk)
  · rename_i t len ps ho
    refine makeOp (s := Instr.buildSlice t len (ps.toList.map fun p => (p.1, a.eval p.2)).toArray) (by simp [execOp, ho]; congr 1; congr 1; apply Array.ext'; simp) (opBuildSlice_ok hE h (RTN.map h ps.toList) hk)
  · rename_i t x ho
    exact pureOp (s := Instr.loadAt t (a.eval x)) (by simp [execOp, ho]) (opLoad_ok hE h hm (h.get x) hk)
  · rename_i x ho
    obtain ⟨v, h1, h2, h3⟩ := opNilCheck_ok (h.get x) hk
    rcases h3 with ⟨p, h3⟩ | ⟨f, cs, h3⟩
    · exact pureOp (s := pure (a.eval x)) (by simp [execOp, ho, h3]) ⟨_, _, h1, rfl, h2⟩
    · exact pureOp (s := pure (a.eval x)) (by simp [execOp, ho, h3]) ⟨_, _, h1, rfl, h2⟩
  · rename_i op t x y ty ho
    split at hk
    · rename_i xs ys ex ey
      obtain ⟨b, h1, h2⟩ := opEqs_ok ho (ex ▸ h.get x) (ey ▸ h.get y) hk
      refine ⟨_, [], h1, fun _ K' Q hK => ?_⟩
      unfold Oper.wp
      rw [h2 w]
      exact hK _ w ⟨c, F, h, RT_lit _ rfl⟩
    obtain ⟨v, V, h1, h2, h3⟩ := opBin_ok hE (h.get x) (h.get y) hk
    have hX : (∃ k n, a.eval x = .int k n) ∨ (∃ s, a.eval x = .string s) ∨ (∃ b, a.eval x = .bool b) ∨ ∃ s n k, a.eval x = .slice s n k := by
      have hx := h.get x
      unfold opBin at hk
      split at hk
      · rename_i e1 _; rw [e1] at hx; exact .inl ⟨_, _, one_lit hx⟩
      · rename_i e1 _; rw [e1] at hx; exact .inr (.inl ⟨_, one_lit hx⟩)
      · rename_i e1 _
        rw [e1] at hx
        obtain ⟨hx, _⟩ := hx
        generalize a.eval x = X at hx ⊢
        cases hx with | nn hx => exact .inr (.inr (.inr ⟨_, _, _, rfl⟩))
      · rename_i e1 _; rw [e1] at hx; exact .inr (.inr (.inr ⟨_, _, _, one_lit hx⟩))
      · rename_i e1 _; rw [e1] at hx; exact .inr (.inr (.inl ⟨_, one_lit hx⟩))
      · exact hk.elim
    exact pureOp (s := binOp op t (a.eval x) (a.eval y)) (by simp [execOp, ho, eqGuard_lit hX]) ⟨v, V, h1, h2, h3⟩
  · rename_i op t x ho
    exact pureOp (s := Op.unary op (a.eval x)) (by simp [execOp, ho]) (opUn_ok (h.get x) hk)
  · rename_i s d x ho
    exact makeOp (s := convert s d (a.eval x)) (by simp [execOp, ho]) (opConv2_ok hE h hm (h.get x) hk)
  · rename_i fn first caps ho
    obtain ⟨v, f, h1, h2, rfl, h4⟩ := opMakeFunc_ok (RTL.map h caps.toList) hk
    have hfirst : first = #[] := by simpa using h2
    exact pureOp (s := Instr.makeFunc (.func f) #[] (caps.map a.eval)) (by simp [execOp, ho, hfirst]) ⟨v, _, h1, by simp [Instr.makeFunc]; rfl, by
      have e : (List.map a.eval caps.toList).toArray = caps.map a.eval := by apply Array.ext'; simp
      rw [← e]; exact h4⟩
  · rename_i t l k ho
    exact makeOp (s := Instr.makeSlice t (a.eval l) (a.eval k)) (by simp [execOp, ho]) (opMakeSlice_ok hE h (h.get l) (h.get k) hk)
  · rename_i t x lo hi ho
    exact pureOp (s := Instr.sliceAt t (a.eval x) (lo.map a.eval) (hi.map a.eval) none) (by simp [execOp, ho]) (opSlice_ok hE h hm (h.get x) (ROT.map h lo) (ROT.map h hi) hk)
  · rename_i s x f ho
    exact pureOp (s := Instr.fieldAt s (a.eval x) f) (by simp [execOp, ho]) (opFieldAddr_ok hE (h.get x) hk)
  · rename_i s x f ho
    exact pureOp (s := Instr.field s (a.eval x) f) (by simp [execOp, ho]) (opField_ok hE (h.get x) hk)
  · rename_i t x i ho
    exact pureOp (s := Instr.indexAt t (a.eval x) (a.eval i)) (by simp [execOp, ho]) (opIndexAddr_ok hE h hm (h.get x) (h.get i) hk)
  · rename_i t x i ho
    exact pureOp (s := Instr.index t (a.eval x) (a.eval i)) (by simp [execOp, ho]) (opIndex_ok hE (h.get x) (h.get i) hk)
  · rename_i x i ho
    exact pureOp (s := Instr.extract (a.eval x) i) (by simp [execOp, ho]) (opExtract_ok (h.get x) hk)
  · rename_i t x k ok ho
    exact pureOp (s := Instr.lookup t (a.eval x) (a.eval k) ok) (by simp [execOp, ho]) (opLookup_ok h hm (h.get x) (h.get k) hk)
  · rename_i cl ho
    split at hk
    · rename_i hc
      split at hk
      case h_2 => exact hk.elim
      rename_i x t hx ht
      have hx' : cl.args = #[x] := by rw [← Array.toArray_toList (xs := cl.args), hx]
      have ht' : cl.argTypes = #[t] := by rw [← Array.toArray_toList (xs := cl.argTypes), ht]
      exact pureOp (s := Builtin.len_ #[t] o.type #[a.eval x]) (by simp [execOp, ho, resolve, hc, invoke, builtin, hx', ht']) (opLen_ok hE (h.get x) hk)
    · rename_i hc
      split at hk
      case h_2 => exact hk.elim
      rename_i x y hx
      have hx' : cl.args = #[x, y] := by rw [← Array.toArray_toList (xs := cl.args), hx]
      exact pureOp (s := Builtin.max_ cl.argTypes o.type #[a.eval x, a.eval y]) (by simp [execOp, ho, resolve, hc, invoke, builtin, hx']) (opMinMax_ok (mx := true) (ts := cl.argTypes) (ty := o.type) (h.get x) (h.get y) hk)
    · rename_i hc
      split at hk
      case h_2 => exact hk.elim
      rename_i x y hx
      have hx' : cl.args = #[x, y] := by rw [← Array.toArray_toList (xs := cl.args), hx]
      exact pureOp (s := Builtin.min_ cl.argTypes o.type #[a.eval x, a.eval y]) (by simp [execOp, ho, resolve, hc, invoke, builtin, hx']) (opMinMax_ok (mx := false) (ts := cl.argTypes) (ty := o.type) (h.get x) (h.get y) hk)
    · rename_i f hc
      obtain ⟨v, news, h1, h2⟩ := opCall_ok h hm (h.get f) (RTL.map h cl.args.toList) hk
      refine ⟨v, news, h1, fun hf K' Q hK => ?_⟩
      obtain ⟨g, cs, h3, h4, h5⟩ := h2 hf
      unfold Oper.wp
      rw [run_call h4 a f cl o ho hc h3 rfl, Oper.upon_enter]
      have e : (List.map a.eval cl.args.toList).toArray = cl.args.map a.eval := by apply Array.ext'; simp
      rw [e] at h5
      refine Calls.mono h5 ?_
      rintro e w' ⟨V, rfl, hP⟩
      exact hK V w' hP
    · exact hk.elim
  · exact hk.elim
end
end Go.Proofs.YtjajnladldchcaaDoor
namespace Go.Proofs.YtjajnladldchcaaDoor
open Go.RowKit
set_option linter.unusedSimpArgs false
set_option linter.unusedVariables false

def AS.set (σ : AS) (s : Nat) (k : Blk) : AS := { σ with mem := fun s' => if s' = s then some k else σ.mem s' }

theorem run_storeCells_unfz (P : Program) (g o : Nat) (t : TypeId) (fz : Nat × Nat) {sz : Nat} : ∀ (vs : List Value) (i : Nat) (cur : Array Value) (w : World), w.heap[g]? = some (.cells cur t fz) → Unfz sz cur fz → o + i + vs.length ≤ cur.size → (∀ v ∈ vs, v.oneCell' = true) →
    (storeCells ⟨g, o, none⟩ vs i).run P w = .ok () (w.setRow g (cur.toList.take (o + i) ++ vs ++ cur.toList.drop (o + i + vs.length)).toArray)
  | [], i, cur, w, hg, _, _, _ => by
    simp only [storeCells, List.append_nil, List.length_nil, Nat.add_zero, List.take_append_drop, Array.toArray_toList]
    rw [setRow_self w g cur t fz hg]
    rfl
  | v :: rest, i, cur, w, hg, hfz, hl, h1 => by
    have hi : o + i < cur.size := by simp at hl; omega
    have hadd : (⟨g, o, none⟩ : Addr).add i = ⟨g, o + i, none⟩ := by unfold Addr.add; split <;> simp_all
    have hcell : w.cell? ⟨g, o + i, none⟩ = some cur[o + i] := by simp [World.cell?, hg, hi]
    have hfro : w.frozen? ⟨g, o + i, none⟩ = false := by
      have := hfz (o + i) (by omega)
      simp only [World.frozen?, hg]
      simpa using this
    have hst : (store ((⟨g, o, none⟩ : Addr).add i) v).run P w = .ok () (w.setRow g (cur.setIfInBounds (o + i) v)) := by
      rw [hadd, run_store P w _ v _ (h1 v (by simp)), hcell]
      simp [hfro, setCell_eq_setRow w g (o + i) cur t fz v hg]
    have ih := run_storeCells_unfz P g o t fz rest (i + 1) (cur.setIfInBounds (o + i) v) (w.setRow g (cur.setIfInBounds (o + i) v)) (setRow_heap w g cur _ t _ hg) (fun j hj => hfz j (by simpa using hj)) (by simp at hl ⊢; omega) (fun x hx => h1 x (by simp [hx]))
    simp only [storeCells, Sem.run_bind, hst, Result.andThen_ok, ih, setRow_setRow]
    congr 3
    have e := list_seg_step cur.toList (o + i) v rest (by simp at hl ⊢; omega)
    simpa [Array.toList_setIfInBounds, Nat.add_assoc] using e

section
variable {P : Program} {w0 w : World} {L : Nat → Prop} {n : Nat} {σ : AS} {a : Act} {c : Ctx} {F : Nat → Nat → Prop}

theorem BlkOk.top {F : Nat → Prop} {s : Nat} {k : Blk} (h : BlkOk c w F s k) {b : Nat} (ht : c.top s b) : F b := by
  cases k with
  | var xs =>
    obtain ⟨b', C, e, fz, a1, a2, a3, a4, a5⟩ := h
    rcases ht with ht | ⟨_, _, ht⟩ <;> rw [a1] at ht <;> cases ht
    exact (a5 b).2 rfl
  | row p sz es =>
    rcases h with ⟨a1, _⟩ | ⟨b', cap, a1, C, e, fz, G, _, _, _, _, _, _, _, _, _, _, _, a12⟩
    · rcases ht with ht | ⟨_, _, ht⟩ <;> rw [a1] at ht <;> cases ht
    · rcases ht with ht | ⟨_, _, ht⟩ <;> rw [a1] at ht <;> cases ht
      exact (a12 b).2 (.inl rfl)
  | par v x => rcases ht with ht | ⟨_, _, ht⟩ <;> rw [h.1] at ht <;> cases ht
  | pin s' i => rcases ht with ht | ⟨_, _, ht⟩ <;> rw [h.1] at ht <;> cases ht
  | mapb b' es =>
    rcases ht with ht | ⟨_, _, ht⟩ <;> rw [h.1] at ht <;> cases ht
    exact (h.2.2 _).2 rfl

theorem H.top_not_I (h : H w0 L n σ a w c F) {s : Nat} {b : Nat} (ht : c.top s b) : F s b ∧ ¬ c.I b := by
  cases hs : σ.mem s with
  | none =>
    have := (h.dom s hs).1
    rcases ht with ht | ⟨_, _, ht⟩ <;> rw [this] at ht <;> cases ht
  | some k =>
    have hF := (h.mem s k hs).top ht
    exact ⟨hF, fun hI => (h.inn s b hF).1 hI ht⟩

theorem H.setBlk (h : H w0 L n σ a w c F) {w' : World} {s : Nat} {k k' : Blk} (hs : σ.mem s = some k) {G : Nat → Prop} (hsub : ∀ b, G b → F s b)
    (hw : ∀ b, ¬ c.top s b → w'.heap[b]? = w.heap[b]?) (hz : w'.heap.size = w.heap.size) (ho : w'.os = w.os) (ht : w'.tape = w.tape) (hp : w'.output = w.output)
    (hk : BlkOk c w' G s k') (hkp : k'.isArg = false := by rfl) (hd : DR = true → w.drawn ≤ w'.drawn := by intro _; first | exact Nat.le_refl _ | exact Nat.le_succ _ | (simp; done)) : H w0 L n (σ.set s k') a w' c (fun s' b => if s' = s then G b else F s' b) := by
  have hI : ∀ b, c.I b → w'.heap[b]? = w.heap[b]? := fun b hb => hw b fun htop => (h.top_not_I htop).2 hb
  have hF : ∀ s', s' ≠ s → ∀ b, F s' b → w'.heap[b]? = w.heap[b]? := fun s' hne b hb => hw b fun htop => hne (h.disj _ _ _ hb (h.top_not_I htop).1)
  refine ⟨h.keeps.step ho ht hp (by omega) (fun b hb hl => hw b fun htop => ?_) hd, h.size, h.defers, fun t => (h.tm t).mono (fun _ _ h => h) (fun _ h => h) hI, fun s' k1 hk1 => ?_, fun s' hs' => ?_, fun s1 s2 b h1 h2 => ?_, fun s' b hb => ?_, fun b hb => by rw [hz]; exact h.imm b hb, fun s' b hb => ?_, fun s' v x hs' => by
    by_cases e : s' = s
    · subst e; simp [AS.set] at hs'; subst hs'; cases hkp
    · simp [AS.set, e] at hs'; exact h.par s' v x hs', h.gl⟩
  · rcases (h.new s b (h.top_not_I htop).1).1 with h1 | h1
    · omega
    · exact hl h1
  · by_cases e : s' = s
    · subst e
      simp [AS.set] at hk1
      subst hk1
      simpa using hk
    · simp [AS.set, e] at hk1
      simp only [e, if_false]
      exact (h.mem s' k1 hk1).mono (fun _ _ h => h) (fun _ h => h) hI (hF s' e)
  · have e : s' ≠ s := fun e => by subst e; simp [AS.set] at hs'
    simp [AS.set, e] at hs'
    simpa [e] using h.dom s' hs'
  · have e1 : F s1 b := by
      split at h1
      · rename_i e; subst e; exact hsub b h1
      · exact h1
    have e2 : F s2 b := by
      split at h2
      · rename_i e; subst e; exact hsub b h2
      · exact h2
    exact h.disj _ _ _ e1 e2
  · have e1 : F s' b := by
      split at hb
      · rename_i e; subst e; exact hsub b hb
      · exact hb
    rw [hz]
    exact h.new s' b e1
  · have e1 : F s' b := by
      split at hb
      · rename_i e; subst e; exact hsub b hb
      · exact hb
    exact h.inn s' b e1

def lenIs : List AV → Nat → Bool
  | [], 0 => true
  | _ :: l, n + 1 => lenIs l n
  | _, _ => false
theorem lenIs_ok : ∀ {l : List AV} {n : Nat}, lenIs l n = true → l.length = n
  | [], 0, _ => rfl
  | [], _ + 1, h => by simp [lenIs] at h
  | _ :: _, 0, h => by simp [lenIs] at h
  | _ :: l, n + 1, h => by simp [lenIs_ok (l := l) (n := n) h]

def opStore (E : Tab) (σ : AS) (t : TypeId) (x y : T) (K : AS → Prop) : Prop :=
  match E.ty t, y.cells with
  | some (sz, _), some ys => if lenIs ys sz = true then (match x with
    | .one (.ptr s j) => match σ.mem s with
      | some (.var xs) => if j + sz ≤ xs.length then K (σ.set s (.var (splice sz ys j xs))) else False
      | _ => False
    | .one (.eptr s i j) => match σ.mem s with
      | some (.row p rz es) => ∃ e, es[i]? = some e ∧ if j + sz ≤ e.length then ∃ es', es' = es.set i (e.take j ++ ys.map AV.bor ++ e.drop (j + sz)) ∧ K (σ.set s (.row (p && ys.all fun y => y.bor.isData) rz es')) else False
      | _ => False
    | _ => False) else False
  | _, _ => False

theorem RL.seg {xs ys : List AV} {vs us : List Value} (h : RL c w xs vs) (k : RL c w ys us) (j sz : Nat) (hl : ys.length = sz) : RL c w (xs.take j ++ ys ++ xs.drop (j + sz)) (vs.take j ++ us ++ vs.drop (j + sz)) :=
  ((h.take j).append k).append (h.drop _)

theorem run_storeVar {t : TypeId} {sz : Nat} {g : Bool} (hty : tyI P t = some (sz, g)) {V : Value} (hl : V.cells.size = sz) {b o : Nat} {cur : Array Value} {e : TypeId} {fz : Nat × Nat} (hg : w.heap[b]? = some (.cells cur e fz)) {sz2 : Nat} (hfz : Unfz sz2 cur fz) (hfit : o + sz ≤ cur.size) (h1 : ∀ v ∈ V.cells.toList, v.oneCell' = true) :
    (Instr.storeAt t (.pointer (some ⟨b, o, none⟩)) V).run P w = .ok () (w.setRow b (cur.toList.take o ++ V.cells.toList ++ cur.toList.drop (o + sz)).toArray) := by
  obtain ⟨i, d, hi, hd, rfl, _, _⟩ := tyI_some hty
  have := run_storeCells_unfz P b o e fz V.cells.toList 0 cur w hg hfz (by simpa [hl] using hfit) h1
  simp only [Nat.add_zero, Array.length_toList, hl] at this
  simp [Instr.storeAt, Instr.sureAddr, storeVar, run_sizeOf hi, hl, this]

theorem RL.set_world {xs : List AV} {vs : List Value} {w' : World} (h : RL c w xs vs) (hI : ∀ b, c.I b → w'.heap[b]? = w.heap[b]?) : RL c w' xs vs := h.mono (fun _ _ h => h) (fun _ h => h) hI

theorem opStore_ok {E : Tab} (hE : E.ok P) (h : H w0 L n σ a w c F) {t : TypeId} {x y : T} {X Y : Value} {K : AS → Prop} (hX : RT c w x X) (hY : RT c w y Y) (hk : opStore E σ t x y K) :
    ∃ σ' w', K σ' ∧ (Instr.storeAt t X Y).run P w = .ok () w' ∧ ∃ c' F', H w0 L n σ' a w' c' F' := by
  unfold opStore at hk
  simp only [splice_eq] at hk
  split at hk
  case h_2 => exact hk.elim
  rename_i sz g ys hty hys
  replace hty := Tab.ty_ok hE hty
  split at hk
  case isFalse => exact hk.elim
  rename_i hl
  replace hl := lenIs_ok hl
  have hYc := RT_cells hys hY
  have hYl : Y.cells.size = sz := by have := hYc.length; rw [hl] at this; simpa using this.symm
  split at hk
  · rename_i s j
    split at hk
    case h_2 => exact hk.elim
    rename_i xs hs
    split at hk
    case isFalse => exact hk.elim
    rename_i hle
    obtain ⟨hX, _⟩ := hX
    cases hX with | @ptr _ _ b hp =>
    obtain ⟨b', C, e, fz, a1, a2, a3, a4, a5⟩ := h.mem s _ hs
    rw [hp] at a1; cases a1
    have hCl : j + sz ≤ C.size := by have := a4.length; rw [this] at hle; simpa using hle
    have hrun := run_storeVar (P := P) (o := j) hty hYl a2 a3 hCl hYc.ones
    refine ⟨_, _, hk, hrun, c, _, h.setBlk hs (G := F s) (fun _ h => h) (fun b' hb' => setRow_other w b b' _ fun e => hb' (by subst e; exact .inl hp)) (by simp) rfl rfl rfl ?_⟩
    have hI : ∀ q, c.I q → (w.setRow b (C.toList.take j ++ Y.cells.toList ++ C.toList.drop (j + sz)).toArray).heap[q]? = w.heap[q]? := fun q hq => setRow_other w b q _ fun e => by
      subst e; exact (h.top_not_I (.inl hp)).2 hq
    refine ⟨b, _, e, fz, hp, setRow_heap w b C _ e fz a2, fun i hi => a3 i ?_, ?_, a5⟩
    · simp at hi; omega
    · exact ((a4.seg hYc j sz hl).set_world hI)
  · rename_i s i j
    split at hk
    case h_2 => exact hk.elim
    rename_i p rz es hs
    obtain ⟨e, he, hk⟩ := hk
    split at hk
    case isFalse => exact hk.elim
    rename_i hle
    obtain ⟨_, rfl, hk⟩ := hk
    obtain ⟨hX, _⟩ := hX
    cases hX with | @eptr _ _ _ b cap rz' hp =>
    rcases h.mem s _ hs with ⟨a1, _⟩ | ⟨b', cap', a1, C, el, fz, G, b1, b2, b3, b4, b5, b6, b7, b8, b9, b10, b11, b12⟩
    · rw [hp] at a1; cases a1
    rw [hp] at a1; cases a1
    obtain ⟨hi, rfl⟩ := List.getElem?_eq_some_iff.1 he
    have hel := b6 _ (List.getElem_mem hi)
    have hfit : i * rz + j + sz ≤ C.size := by
      rw [b5]
      have : (i + 1) * rz ≤ cap * rz := Nat.mul_le_mul_right _ (by omega)
      rw [Nat.add_mul] at this; omega
    have hrun := run_storeVar (P := P) (o := i * rz + j) hty hYl b1 b2 hfit hYc.ones
    have hI : ∀ q, c.I q → (w.setRow b (C.toList.take (i * rz + j) ++ Y.cells.toList ++ C.toList.drop (i * rz + j + sz)).toArray).heap[q]? = w.heap[q]? := fun q hq => setRow_other w b q _ fun e => by
      subst e; exact (h.top_not_I (.inr ⟨_, _, hp⟩)).2 hq
    let G' : Nat → Nat → Nat → Prop := fun i' j' k => ¬ (i' = i ∧ j ≤ j' ∧ j' < j + sz) ∧ G i' j' k
    have hbF : ∀ i j k, G i j k → F s k := fun i j k hk => (b12 k).2 (.inr ⟨i, j, hk⟩)
    refine ⟨_, _, hk, hrun, c, _, h.setBlk hs (G := fun k => k = b ∨ ∃ i j, G' i j k) (fun k hk => ?_) (fun b' hb' => setRow_other w b b' _ fun e => hb' (by subst e; exact .inr ⟨_, _, hp⟩)) (by simp) rfl rfl rfl ?_⟩
    · rcases hk with rfl | ⟨i', j', hk⟩
      · exact (b12 k).2 (.inl rfl)
      · exact hbF _ _ _ hk.2
    have hcell : ∀ (i' j' : Nat) (x : AV), elt (es.set i (es[i].take j ++ ys.map AV.bor ++ es[i].drop (j + sz))) i' j' = some x →
        (¬ (i' = i ∧ j ≤ j' ∧ j' < j + sz) ∧ elt es i' j' = some x) ∨ (i' = i ∧ j ≤ j' ∧ j' < j + sz ∧ ∃ y, ys[j' - j]? = some y ∧ x = y.bor) := fun i' j' x hx => by
      unfold elt at hx
      rw [List.getElem?_set] at hx
      by_cases e : i = i'
      · subst e
        rw [if_pos rfl, if_pos hi] at hx
        simp only [Option.bind_some] at hx
        have hlt : (es[i].take j).length = j := by rw [List.length_take]; omega
        by_cases h1 : j' < j
        · rw [List.append_assoc, List.getElem?_append_left (by omega), List.getElem?_take, if_pos h1] at hx
          exact .inl ⟨by omega, by simp [elt, hi, hx]⟩
        · by_cases h2 : j' < j + sz
          · rw [List.append_assoc, List.getElem?_append_right (by omega), hlt, List.getElem?_append_left (by simp [hl]; omega), List.getElem?_map] at hx
            cases hy : ys[j' - j]? with
            | none => simp [hy] at hx
            | some y => simp [hy] at hx; exact .inr ⟨rfl, by omega, h2, y, rfl, hx.symm⟩
          · rw [List.getElem?_append_right (by simp [hl]; omega)] at hx
            simp only [List.length_append, hlt, List.length_map, hl, List.getElem?_drop] at hx
            rw [show j + sz + (j' - (j + sz)) = j' by omega] at hx
            exact .inl ⟨by omega, by simp [elt, hi, hx]⟩
      · rw [if_neg e] at hx
        exact .inl ⟨fun h => e h.1.symm, hx⟩
    have hval : ∀ (i' j' : Nat), i' < es.length → j' < rz → ∀ v, (C.toList.take (i * rz + j) ++ Y.cells.toList ++ C.toList.drop (i * rz + j + sz)).toArray[i' * rz + j']? = some v →
        (¬ (i' = i ∧ j ≤ j' ∧ j' < j + sz) → C[i' * rz + j']? = some v) ∧ (i' = i ∧ j ≤ j' ∧ j' < j + sz → Y.cells.toList[j' - j]? = some v) := fun i' j' hi' hj' v hv => by
      have hlt : (C.toList.take (i * rz + j)).length = i * rz + j := by rw [List.length_take, Array.length_toList]; omega
      have hv' : (C.toList.take (i * rz + j) ++ Y.cells.toList ++ C.toList.drop (i * rz + j + sz))[i' * rz + j']? = some v := by simpa using hv
      have hYs : Y.cells.toList.length = sz := by simpa using hYl
      refine ⟨fun hn => ?_, fun hy => ?_⟩
      · by_cases h1 : i' * rz + j' < i * rz + j
        · rw [List.append_assoc, List.getElem?_append_left (by omega), List.getElem?_take, if_pos h1] at hv'
          simpa using hv'
        · have h2 : ¬ i' * rz + j' < i * rz + j + sz := fun h2 => hn (by
            have e : i' = i := by
              rcases Nat.lt_trichotomy i' i with h | h | h
              · have : (i' + 1) * rz ≤ i * rz := Nat.mul_le_mul_right _ h
                rw [Nat.add_mul] at this; omega
              · exact h
              · have : (i + 1) * rz ≤ i' * rz := Nat.mul_le_mul_right _ h
                rw [Nat.add_mul] at this; omega
            subst e
            omega)
          rw [List.getElem?_append_right (by simp only [List.length_append, hlt, hYs]; omega)] at hv'
          simp only [List.length_append, hlt, hYs, List.getElem?_drop] at hv'
          rw [show i * rz + j + sz + (i' * rz + j' - (i * rz + j + sz)) = i' * rz + j' by omega] at hv'
          simpa using hv'
      · obtain ⟨rfl, h1, h2⟩ := hy
        rw [List.append_assoc, List.getElem?_append_right (by omega), hlt, List.getElem?_append_left (by omega)] at hv'
        rw [← hv']; congr 1; omega
    have hlen' : ∀ e' ∈ es.set i (es[i].take j ++ ys.map AV.bor ++ es[i].drop (j + sz)), e'.length = rz := fun e' he' => by
      rcases List.mem_or_eq_of_mem_set he' with h1 | h1
      · exact b6 _ h1
      · subst h1; simp [hl, hel]; omega
    refine .inr ⟨b, cap, hp, _, el, fz, G', setRow_heap w b C _ el fz b1, fun q hq => b2 q ?_, by simpa using b3, b4, ?_, hlen', fun i' j' x v hx hv => ?_, fun i' j' x v hx hv => ?_, fun i' j' hk => b9 _ _ hk.2, fun i1 j1 i2 j2 k h1 h2 => b10 _ _ _ _ _ h1.2 h2.2, fun i' j' k hk => ?_, fun k => Iff.rfl⟩
    · simp [hYl] at hq; omega
    · simp [hYl]; omega
    · obtain ⟨hi', hj'⟩ := elt_lt hlen' hx
      obtain ⟨v1, v2⟩ := hval i' j' (by simpa using hi') hj' v hv
      rcases hcell i' j' x hx with ⟨hn, hx'⟩ | ⟨e1, e2, e3, y, hy, rfl⟩
      · exact b7 i' j' x v hx' (v1 hn)
      · exact (hYc.at hy (v2 ⟨e1, e2, e3⟩)).2
    · obtain ⟨hi', hj'⟩ := elt_lt hlen' hx
      obtain ⟨v1, v2⟩ := hval i' j' (by simpa using hi') hj' v hv
      rcases hcell i' j' x hx with ⟨hn, hx'⟩ | ⟨e1, e2, e3, y, hy, rfl⟩
      · have hG : ∀ k, G' i' j' k ↔ G i' j' k := fun k => by simp only [G', and_iff_right hn]
        have hG2 : G' i' j' = G i' j' := funext fun k => propext (hG k)
        rw [hG2]
        rcases b8 i' j' x v hx' (v1 hn) with h1 | ⟨h1, h2, h3⟩
        · exact .inl (h1.mono (fun _ _ h => h) (fun _ h => h) hI fun k hk => setRow_other w b k _ fun e => by subst e; exact b9 _ _ hk)
        · exact .inr ⟨by rw [h1]; rfl, h2, h3.1.mono (fun _ _ h => h) (fun _ h => h) hI, h3.2⟩
      · have hno : ∀ k, ¬ G' i' j' k := fun k hk => hk.1 ⟨e1, e2, e3⟩
        have hR := ((hYc.at hy (v2 ⟨e1, e2, e3⟩)).1.mono (fun _ _ h => h) (fun _ h => h) hI).bor
        cases hd : y.bor.isData with
        | true => exact .inl (.plain hd hR hno)
        | false =>
          refine .inr ⟨?_, hno, hR, by cases hc : y.bor.isCell with
            | false => rfl
            | true => rw [bor_cell hc] at hd; cases hd⟩
          rw [Bool.and_eq_false_iff]
          right
          rw [List.all_eq_false]
          exact ⟨y, List.mem_of_getElem? hy, by simp [hd]⟩
    · have hx := b11 i' j' k hk.2
      obtain ⟨x, hx⟩ := Option.isSome_iff_exists.1 hx
      have : elt (es.set i (es[i].take j ++ ys.map AV.bor ++ es[i].drop (j + sz))) i' j' = some x := by
        unfold elt at hx ⊢
        rw [List.getElem?_set]
        by_cases e : i = i'
        · subst e
          rw [if_pos rfl, if_pos hi]
          simp only [Option.bind_some]
          have hlt : (es[i].take j).length = j := by rw [List.length_take]; omega
          simp [hi] at hx
          by_cases h1 : j' < j
          · rw [List.append_assoc, List.getElem?_append_left (by omega), List.getElem?_take, if_pos h1]; exact hx
          · have h2 : ¬ j' < j + sz := fun h2 => hk.1 ⟨rfl, by omega, h2⟩
            rw [List.getElem?_append_right (by simp [hl]; omega)]
            simp only [List.length_append, hlt, List.length_map, hl, List.getElem?_drop]
            rw [show j + sz + (j' - (j + sz)) = j' by omega]; exact hx
        · rw [if_neg e]; exact hx
      rw [this]; rfl
  · exact hk.elim
end
end Go.Proofs.YtjajnladldchcaaDoor
namespace Go.Proofs.YtjajnladldchcaaDoor
open Go.RowKit
set_option linter.unusedSimpArgs false
set_option linter.unusedVariables false

def AV.noref (s : Nat) : AV → Bool
  | .ptr s' _ => s' != s
  | .eptr s' _ _ => s' != s
  | .loc s' _ _ => s' != s
  | .fn _ _ => false
  | _ => true
def AV.kill (s : Nat) : AV → AV
  | .ptr s' j => if s' = s then .dead else .ptr s' j
  | .eptr s' i j => if s' = s then .dead else .eptr s' i j
  | .loc s' o l => if s' = s then .dead else .loc s' o l
  | .fn f caps => if caps.all (AV.noref s) then .fn f caps else .dead
  | x => x
def T.kill (s : Nat) : T → T
  | .one x => .one (x.kill s)
  | .agg xs => .agg (xs.map (AV.kill s))
  | .tup ts => .tup (ts.map fun t => (t.1, t.2.map (AV.kill s)))
  | .dead => .dead
def Blk.kill (s : Nat) : Blk → Blk
  | .var xs => .var (xs.map (AV.kill s))
  | .row true sz es => .row true sz es
  | .row false sz es => .row false sz (es.map fun e => e.map (AV.kill s))
  | .par v x => .par v x
  | .pin s' i => if s' = s then .row true 0 [] else .pin s' i
  | .mapb b es => .mapb b es
def AS.drop (σ : AS) (s : Nat) : AS := ⟨fun t => (σ.tm t).kill s, fun s' => if s' = s then none else (σ.mem s').map (Blk.kill s)⟩
def Ctx.del (c : Ctx) (s : Nat) : Ctx := ⟨fun s' => if s' = s then none else c.at_ s', c.I⟩

section
variable {P : Program} {w0 w : World} {L : Nat → Prop} {n : Nat} {σ : AS} {a : Act} {c : Ctx} {F : Nat → Nat → Prop}

theorem R.noref {s : Nat} {x : AV} {v : Value} (h : R c w x v) (hn : x.noref s = true) : R (c.del s) w x v := by
  cases x with
  | dead => exact .dead v
  | lit => cases h; exact .lit _
  | ptr s' j => cases h with | ptr h => simp [AV.noref] at hn; exact .ptr (by simp [Ctx.del, hn, h])
  | eptr s' i j => cases h with | @eptr _ _ _ b cap sz h => simp [AV.noref] at hn; exact .eptr (b := b) (cap := cap) (sz := sz) (by simp [Ctx.del, hn, h])
  | loc s' o l =>
    simp [AV.noref] at hn
    cases h with
    | loc h a b => exact .loc (by simp [Ctx.del, hn, h]) a b
    | locnil h => exact .locnil (by simp [Ctx.del, hn, h])
  | row => exact R.free (c := c) (c' := c.del s) (fun _ h => h) (fun _ _ => rfl) h rfl
  | bptr => exact R.free (c := c) (c' := c.del s) (fun _ h => h) (fun _ _ => rfl) h rfl
  | nn => exact R.free (c := c) (c' := c.del s) (fun _ h => h) (fun _ _ => rfl) h rfl
  | fn => simp [AV.noref] at hn

theorem R.kill {s : Nat} {x : AV} {v : Value} (h : R c w x v) : R (c.del s) w (x.kill s) v := by
  cases x with
  | dead => exact .dead v
  | lit => exact h.noref rfl
  | row => exact h.noref rfl
  | bptr => exact h.noref rfl
  | nn => exact h.noref rfl
  | ptr s' j =>
    simp only [AV.kill]
    split
    · exact .dead v
    · exact h.noref (by simpa [AV.noref])
  | eptr s' i j =>
    simp only [AV.kill]
    split
    · exact .dead v
    · exact h.noref (by simpa [AV.noref])
  | loc s' o l =>
    simp only [AV.kill]
    split
    · exact .dead v
    · exact h.noref (by simpa [AV.noref])
  | fn f caps =>
    simp only [AV.kill]
    split
    · rename_i hc
      cases h with | fn a1 a0 a2 => exact .fn a1 a0 (fun k x v hx hv => (a2 k x v hx hv).noref (List.all_eq_true.1 hc _ (List.mem_of_getElem? hx)))
    · exact .dead v

theorem RL.kill {s : Nat} : ∀ {xs : List AV} {vs : List Value}, RL c w xs vs → RL (c.del s) w (xs.map (AV.kill s)) vs
  | [], [], _ => trivial
  | _ :: _, _ :: _, h => ⟨⟨h.1.1.kill, h.1.2⟩, RL.kill h.2⟩
theorem RTs.kill {s : Nat} : ∀ {ts : List (Bool × List AV)} {vs : List Value}, RTs c w ts vs → RTs (c.del s) w (ts.map fun t => (t.1, t.2.map (AV.kill s))) vs
  | [], [], _ => trivial
  | (false, [x]) :: _, _ :: _, h => ⟨⟨h.1.1.kill, h.1.2⟩, RTs.kill h.2⟩
  | (true, _) :: _, .agg _ :: _, h => ⟨RL.kill h.1, RTs.kill h.2⟩
theorem RT.kill {s : Nat} {t : T} {v : Value} (h : RT c w t v) : RT (c.del s) w (t.kill s) v := by
  cases t with
  | dead => trivial
  | one x => exact ⟨h.1.kill, h.2⟩
  | agg xs => cases v <;> first | exact h.elim | exact RL.kill h
  | tup ts => cases v <;> first | exact h.elim | exact RTs.kill h

theorem RO.ctx {c' : Ctx} (h2 : ∀ b, c.I b → c'.I b) {F : Nat → Prop} {x : AV} {v : Value} (h : RO c w F x v) : RO c' w F x v := by
  induction h with
  | @plain F x v a1 a2 a3 => exact .plain a1 (a2.free h2 (fun _ _ => rfl) (by cases x <;> simp_all [AV.isData, AV.isFree])) a3
  | nil a => exact .nil a
  | own b C e fz G a1 a2 a3 a4 a5 a6 a7 a8 a9 a10 a11 a12 a13 ih => exact .own b C e fz G a1 a2 a3 a4 a5 a6 a7 ih a9 a10 a11 a12 a13

theorem elt_map {es : List (List AV)} {f : AV → AV} {i j : Nat} {x : AV} (h : elt (es.map fun e => e.map f) i j = some x) : ∃ y, elt es i j = some y ∧ x = f y := by
  unfold elt at h ⊢
  rw [List.getElem?_map] at h
  cases he : es[i]? with
  | none => simp [he] at h
  | some e =>
    simp only [he, Option.map_some, Option.bind_some, List.getElem?_map] at h ⊢
    cases hy : e[j]? with
    | none => simp [hy] at h
    | some y => simp [hy] at h; exact ⟨y, rfl, h.symm⟩

theorem AV.kill_cell {s : Nat} {x : AV} (h : x.isCell = true) : x.kill s = x := by cases x <;> first | rfl | simp [AV.isCell] at h

theorem RowB.kill {s : Nat} {b cap sz : Nat} {es : List (List AV)} {F : Nat → Prop} (h : RowB c w false b cap sz es F) : RowB (c.del s) w false b cap sz (es.map fun e => e.map (AV.kill s)) F := by
  obtain ⟨C, e, fz, G, a1, a2, a3, a4, a5, a6, a7, a8, a9, a10, a11, a12⟩ := h
  refine ⟨C, e, fz, G, a1, a2, by simpa using a3, a4, a5, fun e' he' => ?_, fun i j x v hx hv => ?_, fun i j x v hx hv => ?_, a9, a10, fun i j k hk => ?_, a12⟩
  · obtain ⟨e'', h1, rfl⟩ := List.mem_map.1 he'; simpa using a6 _ h1
  · obtain ⟨y, hy, rfl⟩ := elt_map hx; exact a7 i j y v hy hv
  · obtain ⟨y, hy, rfl⟩ := elt_map hx
    rcases a8 i j y v hy hv with h1 | ⟨h1, h2, h3⟩
    · rw [AV.kill_cell h1.isCell]; exact .inl (RO.ctx (c := c) (c' := c.del s) (fun _ h => h) h1)
    · exact .inr ⟨h1, h2, h3.1.kill, by have h4 := h3.2; cases y <;> first | exact h4 | (simp only [AV.kill]; split <;> exact h4) | (simp only [AV.kill]; split <;> rfl) | rfl⟩
  · have := a11 i j k hk
    obtain ⟨x, hx⟩ := Option.isSome_iff_exists.1 this
    unfold elt at hx ⊢
    rw [List.getElem?_map]
    cases he : es[i]? with
    | none => simp [he] at hx
    | some e => simp [he] at hx ⊢; exact (List.getElem?_eq_some_iff.1 hx).1

theorem BlkOk.kill {F : Nat → Prop} {s s' : Nat} (hs : s' ≠ s) {k : Blk} (h : BlkOk c w F s' k) : BlkOk (c.del s) w F s' (k.kill s) := by
  cases k with
  | var xs =>
    obtain ⟨b, C, e, fz, a1, a2, a3, a4, a5⟩ := h
    exact ⟨b, C, e, fz, by simp [Ctx.del, hs, a1], a2, a3, a4.kill, a5⟩
  | row p sz es =>
    cases p with
    | true =>
      rcases h with ⟨a1, a2, a3⟩ | ⟨b, cap, a1, C, e, fz, G, b1, b2, b3, b4, b5, b6, b7, b8, b9, b10, b11, b12⟩
      · exact .inl ⟨by simp [Ctx.del, hs, a1], a2, a3⟩
      · exact .inr ⟨b, cap, by simp [Ctx.del, hs, a1], C, e, fz, G, b1, b2, b3, b4, b5, b6, b7, fun i j x v hx hv => .inl (RO.ctx (c := c) (c' := c.del s) (fun _ h => h) ((b8 i j x v hx hv).resolve_right (by simp))), b9, b10, b11, b12⟩
    | false =>
      rcases h with ⟨a1, rfl, a3⟩ | ⟨b, cap, a1, hB⟩
      · exact .inl ⟨by simp [Ctx.del, hs, a1], rfl, a3⟩
      · exact .inr ⟨b, cap, by simp [Ctx.del, hs, a1], hB.kill⟩
  | par v x => exact ⟨by simp [Ctx.del, hs, h.1], h.2⟩
  | pin s2 i =>
    obtain ⟨a1, a2, a3⟩ := h
    simp only [Blk.kill]
    split
    · exact .inl ⟨by simp [Ctx.del, hs, a1], rfl, a2⟩
    · rename_i hne
      exact ⟨by simp [Ctx.del, hs, a1], a2, by simp [Ctx.del, hne, a3]⟩
  | mapb b es => exact ⟨by simp [Ctx.del, hs, h.1], h.2⟩

theorem H.drop (h : H w0 L n σ a w c F) (s : Nat) : H w0 L n (σ.drop s) a w (c.del s) (fun s' b => s' ≠ s ∧ F s' b) := by
  refine ⟨h.keeps, h.size, h.defers, fun t => (h.tm t).kill, fun s' k hk => ?_, fun s' hs' => ?_, fun s1 s2 b h1 h2 => h.disj _ _ _ h1.2 h2.2, fun s' b hb => h.new s' b hb.2, h.imm, fun s' b hb => ?_, fun s' v x hk => ?_, h.gl⟩
  · by_cases e : s' = s
    · subst e; simp [AS.drop] at hk
    · simp [AS.drop, e] at hk
      obtain ⟨k', hk', rfl⟩ := hk
      have := (h.mem s' k' hk').kill (s := s) e
      rw [show (fun b => s' ≠ s ∧ F s' b) = F s' from funext fun b => propext (by simp [e])]
      exact this
  · by_cases e : s' = s
    · subst e; exact ⟨by simp [Ctx.del], fun k hk => hk.1 rfl⟩
    · simp [AS.drop, e] at hs'
      have := h.dom s' hs'
      exact ⟨by simp [Ctx.del, this.1], fun k hk => this.2 k hk.2⟩
  · have := h.inn s' b hb.2
    rw [show (c.del s).I b ↔ c.I b from Iff.rfl, this]
    simp [Ctx.top, Ctx.del, hb.1]
  · by_cases e : s' = s
    · subst e; simp [AS.drop] at hk
    · simp [AS.drop, e] at hk
      obtain ⟨k', hk', hk2⟩ := hk
      cases k' with
      | par v' x' => cases hk2; exact h.par s' _ _ hk'
      | var xs => cases hk2
      | row p sz es => cases p <;> cases hk2
      | pin s2 i =>
        simp only [Blk.kill] at hk2
        split at hk2 <;> cases hk2
      | mapb b es => cases hk2

theorem run_append_nothing {t ty e : TypeId} {i : TypeInfo} (ht : P.underlying t = some (.slice e)) (hi : P.info? e = some i) {X : Value} {A : Option Addr} {cp : Nat} (hX : X = .slice none 0 0 ∨ ∃ g m cap, X = .slice (some g) m cap ∧ m ≤ cap) :
    (Builtin.append_ #[t, t] ty #[X, .slice A 0 cp]).run P w = .ok X w := by
  have h1 : ∀ (s : Nat), (Builtin.firstCells s 0 (.slice A 0 cp)).run P w = .ok #[] w := fun s => by
    cases A <;> simp [Builtin.firstCells, loadCells, loadCellsFrom]
  rcases hX with rfl | ⟨g, m, cap, rfl, hm⟩
  · simp [Builtin.append_, run_underlying ht, sizeOf, typeInfo, hi, Builtin.lenOf, h1]
  · simp [Builtin.append_, run_underlying ht, sizeOf, typeInfo, hi, Builtin.lenOf, h1, hm, storeCells]

theorem run_append_place {t ty e : TypeId} {i : TypeInfo} (ht : P.underlying t = some (.slice e)) (hi : P.info? e = some i)
    {g sLen sCap : Nat} {cur : Array Value} {el : TypeId} {fz : Nat × Nat} (hg : w.heap[g]? = some (.cells cur el fz)) {sz : Nat} (hfz : Unfz sz cur fz)
    {a : Addr} {m c : Nat} {news : List Value} (hl : news.length = m * i.size) (hnews : ∀ j v, news[j]? = some v → w.cell? (a.add j) = some v) (h1 : ∀ u ∈ news, u.oneCell' = true)
    (hroom : sLen + m ≤ sCap) (hfit : sLen * i.size + news.length ≤ cur.size) :
    (Builtin.append_ #[t, t] ty #[.slice (some ⟨g, 0, none⟩) sLen sCap, .slice (some a) m c]).run P w =
      .ok (.slice (some ⟨g, 0, none⟩) (sLen + m) sCap) (w.setRow g (cur.toList.take (sLen * i.size) ++ news ++ cur.toList.drop (sLen * i.size + news.length)).toArray) := by
  have hf := run_firstCells_some (P := P) w i.size m a m c news hl hnews
  have hst := run_storeCells_unfz P g (sLen * i.size) el fz news 0 cur w hg hfz (by simpa using hfit) h1
  simp only [Nat.add_zero] at hst
  simp [Builtin.append_, run_underlying ht, sizeOf, typeInfo, hi, Builtin.lenOf, hroom, hf, Addr.add_lit, hst]
end
end Go.Proofs.YtjajnladldchcaaDoor
namespace Go.Proofs.YtjajnladldchcaaDoor
open Go.RowKit
set_option linter.unusedSimpArgs false
set_option linter.unusedVariables false

section
variable {P : Program} {w0 w : World} {L : Nat → Prop} {n : Nat} {σ : AS} {a : Act} {c : Ctx} {F : Nat → Nat → Prop}

theorem H.touch (h : H w0 L n σ a w c F) {w' : World} (ho : w'.os = w.os) (ht : w'.tape = w.tape) (hp : w'.output = w.output) (hz : w.heap.size ≤ w'.heap.size)
    (hI : ∀ b, c.I b → w'.heap[b]? = w.heap[b]?) (hF : ∀ s b, F s b → w'.heap[b]? = w.heap[b]?) (hK : ∀ b, b < w0.heap.size → ¬ L b → w'.heap[b]? = w.heap[b]?) (hd : DR = true → w.drawn ≤ w'.drawn := by intro _; first | exact Nat.le_refl _ | exact Nat.le_succ _ | (simp; done)) : H w0 L n σ a w' c F :=
  ⟨h.keeps.step ho ht hp hz hK hd, h.size, h.defers, fun t => (h.tm t).mono (fun _ _ h => h) (fun _ h => h) hI, fun s k hk => (h.mem s k hk).mono (fun _ _ h => h) (fun _ h => h) hI (hF s), h.dom, h.disj,
    fun s b hb => ⟨(h.new s b hb).1, Nat.lt_of_lt_of_le (h.new s b hb).2 hz⟩, fun b hb => Nat.lt_of_lt_of_le (h.imm b hb) hz, h.inn, h.par, h.gl⟩

theorem elt_append {es src : List (List AV)} {i j : Nat} {x : AV} (h : elt (es ++ src) i j = some x) : (i < es.length ∧ elt es i j = some x) ∨ (es.length ≤ i ∧ elt src (i - es.length) j = some x) := by
  unfold elt at h ⊢
  rw [List.getElem?_append] at h
  split at h
  · exact .inl ⟨by assumption, h⟩
  · exact .inr ⟨by omega, h⟩

theorem kill_cell {s : Nat} {y : AV} (h : (y.bor.kill s).isCell = true) : (y.bor.kill s).isData = true := by
  cases y <;> simp only [AV.bor, AV.kill] at h ⊢ <;> first | rfl | (split at h <;> cases h) | cases h
theorem RowB.build {p : Bool} {b cap sz : Nat} {es src : List (List AV)} {C : Array Value} {e : TypeId} {fz : Nat × Nat} {G : Nat → Nat → Nat → Prop} (hC : w.heap[b]? = some (.cells C e fz)) (hfz : Unfz sz C fz) (hl : es.length + src.length ≤ cap) (hm : cap ≤ maxLen) (hs : C.size = cap * sz)
    (he : ∀ e ∈ es, e.length = sz) (hsrc : ∀ e ∈ src, e.length = sz)
    (h8 : ∀ (i j : Nat) (x : AV) (v : Value), elt es i j = some x → C[i * sz + j]? = some v → v.oneCell' = true ∧ RO c w (G i j) x v)
    (h9 : ∀ (i j : Nat) (x : AV) (v : Value), elt src i j = some x → C[(es.length + i) * sz + j]? = some v → v.oneCell' = true ∧ R c w x v ∧ (p = true → x.isData = true) ∧ (x.isCell = true → x.isData = true))
    (g1 : ∀ i j, ¬ G i j b) (g2 : ∀ i j i' j' k, G i j k → G i' j' k → i = i' ∧ j = j') (g3 : ∀ i j k, G i j k → (elt es i j).isSome = true) : RowB c w p b cap sz (es ++ src) (fun k => k = b ∨ ∃ i j, G i j k) := by
  have hno : ∀ i j, es.length ≤ i → ∀ k, ¬ G i j k := fun i j hi k hk => by
    obtain ⟨x, hx⟩ := Option.isSome_iff_exists.1 (g3 i j k hk)
    have := (elt_lt he hx).1
    omega
  refine ⟨C, e, fz, G, hC, hfz, by simpa using hl, hm, hs, fun e h => ?_, fun i j x v hx hv => ?_, fun i j x v hx hv => ?_, g1, g2, fun i j k hk => ?_, fun k => Iff.rfl⟩
  · rcases List.mem_append.1 h with h | h
    · exact he e h
    · exact hsrc e h
  · rcases elt_append hx with ⟨_, hx⟩ | ⟨hi, hx⟩
    · exact (h8 i j x v hx hv).1
    · exact (h9 (i - es.length) j x v hx (by rw [show es.length + (i - es.length) = i by omega]; exact hv)).1
  · rcases elt_append hx with ⟨_, hx⟩ | ⟨hi, hx⟩
    · exact .inl (h8 i j x v hx hv).2
    · obtain ⟨_, h1, h2⟩ := h9 (i - es.length) j x v hx (by rw [show es.length + (i - es.length) = i by omega]; exact hv)
      cases hd : x.isCell with
      | true => exact .inl (.plain (h2.2 hd) h1 (hno i j hi))
      | false =>
        cases p with
        | true =>
          have h3 := h2.1 rfl
          exact absurd hd (by cases x <;> first | (intro h5; cases h5; done) | (intro h5; cases h3; done))
        | false => exact .inr ⟨rfl, hno i j hi, h1, by first | exact hd | rfl⟩
  · have h1 := g3 i j k hk
    obtain ⟨x, hx⟩ := Option.isSome_iff_exists.1 h1
    have hi := (elt_lt he hx).1
    have h2 : (es ++ src)[i]? = es[i]? := List.getElem?_append_left hi
    unfold elt at h1 ⊢
    rw [h2]; exact h1

def T.noref (s : Nat) : T → Bool
  | .one x => x.noref s
  | _ => false

def laid (p : Bool) (s : Nat) (src : List (List AV)) : List (List AV) := if p then src.map fun e => e.map AV.bor else src.map fun e => e.map fun x => x.bor.kill s

def opAppend (E : Tab) (σ : AS) (site : Nat) (t : TypeId) (x y : T) (K : AS → T → Prop) : Prop :=
  match E.el t with
  | some (e, sz, by_) => match E.zr e with
    | some zs => if zs.length = sz then ∃ p2 src, opSrc σ.mem sz y p2 src ∧ ∃ src', match x with
        | .one (.lit (.slice none 0 0)) => src' = src.map (fun e => e.map AV.bor) ∧ σ.mem site = none ∧ src.length ≤ maxLen ∧ src.length * by_ ≤ 140737488355328 ∧
            K (σ.add site (.row p2 sz src')) (.one (.loc site 0 src.length))
        | .one (.loc s off len) => match σ.mem s with
          | some (.row true rz es) => if rz = sz then src' = laid p2 s src ∧ off = 0 ∧ len = es.length ∧ y.noref s = true ∧ es.length + src.length ≤ maxLen ∧ (es.length + src.length) * by_ ≤ 140737488355328 ∧
              K ((σ.drop s).add s (.row p2 sz (es ++ src'))) (.one (.loc s 0 (es.length + src.length))) else False
          | _ => False
        | _ => False
      else False
    | none => False
  | none => False

theorem laid_len (p : Bool) (s : Nat) (src : List (List AV)) : (laid p s src).length = src.length := by unfold laid; split <;> simp
theorem laid_lens {p : Bool} {s sz : Nat} {src : List (List AV)} (h : ∀ e ∈ src, e.length = sz) : ∀ e ∈ laid p s src, e.length = sz := by
  intro e he
  unfold laid at he
  split at he
  · obtain ⟨e', h1, rfl⟩ := List.mem_map.1 he; simpa using h e' h1
  · obtain ⟨e', h1, rfl⟩ := List.mem_map.1 he; simpa using h e' h1
theorem bor_data {x : AV} (h : x.isCell = true) : x.bor.isData = true := by cases x <;> first | rfl | simp [AV.isCell] at h

theorem opAppend_ok {E : Tab} (hE : E.ok P) (h : H w0 L n σ a w c F) {site t ty : Nat} {x y : T} {X Y : Value} {K : AS → T → Prop} (hX : RT c w x X) (hY : RT c w y Y) (hk : opAppend E σ site t x y K) :
    ∃ σ1 v, K σ1 v ∧ ∃ V w', (Builtin.append_ #[t, t] ty #[X, Y]).run P w = .ok V w' ∧ ∃ c' F', H w0 L n σ1 a w' c' F' ∧ RT c' w' v V := by
  unfold opAppend at hk
  split at hk
  case h_2 => exact hk.elim
  rename_i e sz by_ he
  split at hk
  case h_2 => exact hk.elim
  rename_i zs hz
  split at hk
  case isFalse => exact hk.elim
  rename_i hzs
  obtain ⟨p2, src, hsrc, src', hk⟩ := hk
  obtain ⟨inf, hu, hi, rfl, rfl, hne⟩ := elI_some (Tab.el_ok hE he)
  obtain ⟨inf', z, hi', hzz, rfl, _⟩ := zrI_some (Tab.zr_ok hE hz)
  rw [hi] at hi'; cases hi'
  have hzsz : z.cells.size = inf.size := by simpa using hzs
  obtain ⟨hlens, A, cp, rfl, hA⟩ := opSrc_ok h (Sup.refl σ) hY hsrc
  have hcut : ∀ (need old : Nat), need ≤ maxLen → (need : Int) ≤ 9223372036854775807 := fun need old hm => by simp only [maxLen] at hm; omega
  split at hk
  · -- onto nil
    obtain ⟨rfl, hs, hm, hb, hk⟩ := hk
    obtain rfl := one_lit hX
    refine ⟨_, _, hk, ?_⟩
    by_cases h0 : src.length = 0
    · have hnil : src = [] := List.eq_nil_of_length_eq_zero h0
      subst hnil
      have hrun := run_append_nothing (P := P) (w := w) (ty := ty) (A := A) (cp := cp) hu hi (X := .slice none 0 0) (.inl rfl)
      have hH := h.addSite' (s := site) (k := .row p2 inf.size []) (i := .nil) (G := fun _ => False) hs (fun _ hb => hb.elim) (fun _ _ hb => hb.elim) (.inl ⟨by simp [Ctx.add], rfl, fun _ h => h⟩)
      exact ⟨_, _, hrun, _, _, hH, .locnil (by simp [Ctx.add]), rfl⟩
    · obtain ⟨b, o, rfl, news, hnl, hnc, hnr⟩ := hA (by omega)
      have hadd : ∀ (j : Nat) (v : Value), news[j]? = some v → w.cell? ((⟨b, o, none⟩ : Addr).add j) = some v := fun j v hj => by rw [Addr.add_lit]; exact hnc j v hj
      have hrun := run_append_nil (P := P) w t ty e inf z hu hi hzz ⟨b, o, none⟩ src.length cp news hnl hadd (by omega) (hcut _ 0 hm) (by omega)
      have hge := grownCap_ge w src.length 0 e
      have hle := grownCap_le_maxLen w src.length 0 e hm
      have hbelow : Bel w.heap.size w (w.drew.alloc (.cells (news.toArray ++ Builtin.zeroCells z.cells (grownCap w src.length 0 e - src.length)) e)) := ((Bel.refl _ _).drew).alloc (by simp) _
      obtain ⟨c', F', hH, hat⟩ := h.newRow hbelow hs (p := p2) (sz := inf.size) (cap := grownCap w src.length 0 e) (es := src.map fun e => e.map AV.bor) (b := w.heap.size) (Nat.le_refl _) (heap_alloc_new w.drew _) (fun i _ => by simp) (by simpa using hge) hle
        (by
          simp only [Array.size_append, List.size_toArray, size_zeroCells, hzsz, hnl, ← Nat.add_mul]
          congr 1; omega) (fun e' he' => by obtain ⟨e'', h1, rfl⟩ := List.mem_map.1 he'; simpa using hlens e'' h1) (fun i j x v hx hv => by
          obtain ⟨y, hy, rfl⟩ := elt_map hx
          obtain ⟨hi1, hj1⟩ := elt_lt hlens hy
          have hlt : i * inf.size + j < news.length := by rw [hnl]; exact fit_lt hi1 hj1 (Nat.le_refl _)
          rw [Array.getElem?_append_left (by simpa using hlt)] at hv
          obtain ⟨r1, r2, r3⟩ := hnr i j y v hy (by simpa using hv)
          exact ⟨⟨r1.bor, r2⟩, fun hp => bor_data (r3 hp), bor_cell⟩)
      refine ⟨_, _, hrun, c', F', hH, ?_, rfl⟩
      have := R.loc (c := c') (w := w.drew.alloc (.cells (news.toArray ++ Builtin.zeroCells z.cells (grownCap w src.length 0 e - src.length)) e)) (off := 0) (len := src.length) (A := some ⟨w.heap.size, 0, none⟩) hat (by omega) (fun _ => by simp)
      simpa using this
  · -- onto a row of the call's own
    rename_i s off len
    split at hk
    case h_2 => exact hk.elim
    rename_i rz es hs
    split at hk
    case isFalse => exact hk.elim
    rename_i hrz
    subst hrz
    obtain ⟨rfl, rfl, hlen, hnr0, hm, hb, hk⟩ := hk
    obtain ⟨hX, _⟩ := hX
    refine ⟨_, _, hk, ?_⟩
    have hd := h.drop s
    have hnone : (σ.drop s).mem s = none := by simp [AS.drop]
    have hext : ∀ (si : SI) (J : Nat → Prop), (∀ s' i', (c.del s).at_ s' = some i' → ((c.del s).add s si J).at_ s' = some i') ∧ ∀ b, (c.del s).I b → ((c.del s).add s si J).I b := fun si J => Ctx.add_ext (by simp [Ctx.del]) si J
    have hnew : ∀ (news : List Value) (si : SI) (J : Nat → Prop) (w' : World), (∀ b, c.I b → w'.heap[b]? = w.heap[b]?) → (∀ (i j : Nat) (x : AV) (v : Value), elt src i j = some x → news[i * inf.size + j]? = some v → R c w x v ∧ v.oneCell' = true ∧ (p2 = true → x.isCell = true)) →
        ∀ (i j : Nat) (x : AV) (v : Value), elt (laid p2 s src) i j = some x → news[i * inf.size + j]? = some v → v.oneCell' = true ∧ R ((c.del s).add s si J) w' x v ∧ (p2 = true → x.isData = true) ∧ (x.isCell = true → x.isData = true) := by
      intro news si J w' hI hr i j x v hx hv
      obtain ⟨e1, e2⟩ := hext si J
      unfold laid at hx
      split at hx
      · rename_i hp
        obtain ⟨y, hy, rfl⟩ := elt_map hx
        obtain ⟨r1, r2, r3⟩ := hr i j y v hy hv
        have hcell := r3 hp
        exact ⟨r2, (R.free (c := c) (fun b hb => e2 b hb) hI r1 (by cases y <;> simp_all [AV.isCell, AV.isFree])).bor, fun _ => bor_data hcell, bor_cell⟩
      · rename_i hp
        obtain ⟨y, hy, rfl⟩ := elt_map hx
        obtain ⟨r1, r2, r3⟩ := hr i j y v hy hv
        exact ⟨r2, R.mono (c := c.del s) e1 e2 hI r1.bor.kill, fun h => absurd h hp, kill_cell⟩
    rcases h.mem s _ hs with ⟨hat, rfl, hF0⟩ | ⟨b, cap, hat, hB⟩
    · have hX0 : X = .slice none 0 0 := by
        cases hX with
        | locnil => rfl
        | loc h1 => rw [hat] at h1; cases h1
      subst hX0
      by_cases h0 : src.length = 0
      · have hnil : src = [] := List.eq_nil_of_length_eq_zero h0
        subst hnil
        have hrun := run_append_nothing (P := P) (w := w) (ty := ty) (A := A) (cp := cp) hu hi (X := .slice none 0 0) (.inl rfl)
        have hH := hd.addSite' (s := s) (k := .row p2 inf.size ([] ++ laid p2 s [])) (i := .nil) (G := fun _ => False) hnone (fun _ hb => hb.elim) (fun _ _ hb => hb.elim) (.inl ⟨by simp [Ctx.add], by simp [laid], fun _ h => h⟩)
        exact ⟨_, _, hrun, _, _, hH, .locnil (by simp [Ctx.add]), rfl⟩
      · obtain ⟨b, o, rfl, news, hnl, hnc, hnr⟩ := hA (by omega)
        have hadd : ∀ (j : Nat) (v : Value), news[j]? = some v → w.cell? ((⟨b, o, none⟩ : Addr).add j) = some v := fun j v hj => by rw [Addr.add_lit]; exact hnc j v hj
        simp only [List.length_nil, Nat.zero_add] at hm hb
        have hrun := run_append_nil (P := P) w t ty e inf z hu hi hzz ⟨b, o, none⟩ src.length cp news hnl hadd (by omega) (hcut _ 0 hm) (by omega)
        have hge := grownCap_ge w src.length 0 e
        have hle := grownCap_le_maxLen w src.length 0 e hm
        have hbelow : Bel w.heap.size w (w.drew.alloc (.cells (news.toArray ++ Builtin.zeroCells z.cells (grownCap w src.length 0 e - src.length)) e)) := ((Bel.refl _ _).drew).alloc (by simp) _
        have hsize : (news.toArray ++ Builtin.zeroCells z.cells (grownCap w src.length 0 e - src.length)).size = grownCap w src.length 0 e * inf.size := by
          simp only [Array.size_append, List.size_toArray, size_zeroCells, hzsz, hnl, ← Nat.add_mul]
          congr 1; omega
        have hH := (hd.world hbelow).addSite' (s := s) (k := .row p2 inf.size ([] ++ laid p2 s src)) (i := .row w.heap.size (grownCap w src.length 0 e) inf.size) (G := fun k => k = w.heap.size ∨ ∃ i j : Nat, (fun _ _ _ => False : Nat → Nat → Nat → Prop) i j k) hnone
          (fun k hk => by
            have hk' : k = w.heap.size := by simpa using hk
            subst hk'
            exact ⟨.inl h.keeps.size, by simp, fun s' hs' => by have := (h.new s' _ hs'.2).2; omega⟩) (fun k hk _ hI => by
            have hk' : k = w.heap.size := hk
            subst hk'
            have := h.imm _ hI; omega)
          (.inr ⟨w.heap.size, grownCap w src.length 0 e, by simp [Ctx.add], RowB.build (C := news.toArray ++ Builtin.zeroCells z.cells (grownCap w src.length 0 e - src.length)) (e := e) (fz := (0, 0)) (heap_alloc_new w.drew _) (fun i _ => by simp) (by rw [laid_len]; simpa using hge) hle hsize (by simp) (laid_lens hlens) (by simp [elt])
            (fun i j x v hx hv => by
              obtain ⟨hi1, hj1⟩ := elt_lt (laid_lens hlens) hx
              rw [laid_len] at hi1
              have hlt : i * inf.size + j < news.length := by rw [hnl]; exact fit_lt hi1 hj1 (Nat.le_refl _)
              simp only [List.length_nil, Nat.zero_add] at hv
              rw [Array.getElem?_append_left (by simpa using hlt)] at hv
              exact hnew news _ _ _ (fun q hq => hbelow.block q (h.imm q hq)) hnr i j x v hx (by simpa using hv)) (fun _ _ h => h) (fun _ _ _ _ _ h => h.elim) (fun _ _ _ h => h.elim)⟩)
        refine ⟨_, _, hrun, _, _, hH, ?_, rfl⟩
        have := R.loc (c := (c.del s).add s (.row w.heap.size (grownCap w src.length 0 e) inf.size) (fun b => (fun k => k = w.heap.size ∨ ∃ i j : Nat, (fun _ _ _ => False : Nat → Nat → Nat → Prop) i j k) b ∧ ¬ (SI.row w.heap.size (grownCap w src.length 0 e) inf.size).isTop b)) (w := w.drew.alloc (.cells (news.toArray ++ Builtin.zeroCells z.cells (grownCap w src.length 0 e - src.length)) e)) (s := s) (off := 0) (len := src.length) (b := w.heap.size) (cap := grownCap w src.length 0 e) (sz := inf.size) (A := some ⟨w.heap.size, 0, none⟩) (by simp [Ctx.add]) (by omega) (fun _ => by simp)
        simpa using this
    · obtain ⟨C, el, fz, G, a1, a2, a3, a4, a5, a6, a7, a8, a9, a10, a11, a12⟩ := hB
      have a8' : ∀ (i j : Nat) (x : AV) (v : Value), elt es i j = some x → C[i * inf.size + j]? = some v → RO c w (G i j) x v := fun i j x v hx hv => (a8 i j x v hx hv).resolve_right (by simp)
      have hFb : F s b := (a12 b).2 (.inl rfl)
      have hGF : ∀ i j k, G i j k → F s k ∧ c.I k := fun i j k hk => by
        have hFk : F s k := (a12 k).2 (.inr ⟨i, j, hk⟩)
        refine ⟨hFk, (h.inn s k hFk).2 ?_⟩
        rintro (ht | ⟨_, _, ht⟩)
        · rw [hat] at ht; cases ht
        · rw [hat] at ht; cases ht; exact a9 i j hk
      have hbI : ¬ c.I b := (h.top_not_I (.inr ⟨_, _, hat⟩)).2
      have hbF : ∀ s', s' ≠ s → ¬ F s' b := fun s' hne hb' => hne (h.disj _ _ _ hb' hFb)
      obtain ⟨A0, rfl, hA0⟩ : ∃ A0, X = .slice A0 es.length cap ∧ (0 < cap → A0 = some ⟨b, 0, none⟩) := by
        subst hlen
        generalize hq : es.length = q at hX
        cases hX with
        | locnil h1 => rw [hat] at h1; cases h1
        | @loc _ _ _ b' cap' sz' A h1 hle hA =>
          rw [hat] at h1; cases h1
          exact ⟨A, rfl, fun hc0 => by simpa using hA hc0⟩
      have fin : ∀ (w' : World) (b' cap' : Nat) (C' : Array Value) (el' : TypeId) (fz' : Nat × Nat) (news : List Value) (A' : Option Addr), H w0 L n (σ.drop s) a w' (c.del s) (fun s' b => s' ≠ s ∧ F s' b) → w'.heap[b']? = some (.cells C' el' fz') → Unfz inf.size C' fz' → es.length + src.length ≤ cap' → cap' ≤ maxLen → C'.size = cap' * inf.size →
          (∀ q, c.I q → w'.heap[q]? = w.heap[q]?) → (b' = b ∨ b' = w.heap.size) → b' < w'.heap.size → w.heap.size ≤ w'.heap.size →
          (∀ k, k < es.length * inf.size → C'[k]? = C[k]?) → (∀ k, k < news.length → C'[es.length * inf.size + k]? = news[k]?) → news.length = src.length * inf.size →
          (∀ (i j : Nat) (x : AV) (v : Value), elt src i j = some x → news[i * inf.size + j]? = some v → R c w x v ∧ v.oneCell' = true ∧ (p2 = true → x.isCell = true)) →
          (0 < cap' → A' = some ⟨b', 0, none⟩) →
          ∃ c' F', H w0 L n ((σ.drop s).add s (.row p2 inf.size (es ++ laid p2 s src))) a w' c' F' ∧ RT c' w' (.one (.loc s 0 (es.length + src.length))) (.slice A' (es.length + src.length) cap') := by
        intro w' b' cap' C' el' fz' news A' hH0 hC' hfz' hfit' hm' hs' hI hb' hlt' hgr hold hnews hnl hnr hA'
        have hb'I : ¬ c.I b' := fun hI' => by
          rcases hb' with rfl | rfl
          · exact hbI hI'
          · have := h.imm _ hI'; omega
        have hGne : ∀ i j, ¬ G i j b' := fun i j hg => hb'I (hGF i j b' hg).2
        have hH := hH0.addSite' (s := s) (k := .row p2 inf.size (es ++ laid p2 s src)) (i := .row b' cap' inf.size) (G := fun k => k = b' ∨ ∃ i j, G i j k) hnone
          (fun k hk => by
            rcases hk with rfl | ⟨i, j, hk⟩
            · refine ⟨?_, hlt', fun s' hs' => ?_⟩
              · rcases hb' with rfl | rfl
                · exact (h.new s _ hFb).1
                · exact .inl h.keeps.size
              · rcases hb' with rfl | rfl
                · exact hbF s' hs'.1 hs'.2
                · have := (h.new s' _ hs'.2).2; omega
            · obtain ⟨h1, h2⟩ := hGF i j k hk
              exact ⟨(h.new s k h1).1, Nat.lt_of_lt_of_le (h.new s k h1).2 hgr, fun s' hs' => hs'.1 (h.disj _ _ _ hs'.2 h1)⟩)
          (fun k hk _ hI' => by
            have hk' : k = b' := hk
            subst hk'
            exact hb'I hI')
          (.inr ⟨b', cap', by simp [Ctx.add], RowB.build hC' hfz' (by rw [laid_len]; exact hfit') hm' hs' a6 (laid_lens hlens)
            (fun i j x v hx hv => by
              obtain ⟨hi1, hj1⟩ := elt_lt a6 hx
              rw [hold _ (fit_lt hi1 hj1 (Nat.le_refl _))] at hv
              have h8 := a8' i j x v hx hv
              refine ⟨a7 i j x v hx hv, ?_⟩
              refine RO.ctx (c := c) (fun q hq => (hext _ _).2 q hq) (h8.mono (fun _ _ h => h) (fun _ h => h) hI fun q hq => hI q (hGF i j q hq).2))
            (fun i j x v hx hv => by
              obtain ⟨hi1, hj1⟩ := elt_lt (laid_lens hlens) hx
              rw [laid_len] at hi1
              have hlt : i * inf.size + j < news.length := by rw [hnl]; exact fit_lt hi1 hj1 (Nat.le_refl _)
              rw [Nat.add_mul, Nat.add_assoc, hnews _ hlt] at hv
              exact hnew news _ _ _ hI hnr i j x v hx hv) hGne a10 a11⟩)
        refine ⟨_, _, hH, ?_, rfl⟩
        have := R.loc (c := (c.del s).add s (.row b' cap' inf.size) (fun k => (fun k => k = b' ∨ ∃ i j, G i j k) k ∧ ¬ (SI.row b' cap' inf.size).isTop k)) (w := w') (s := s) (off := 0) (len := es.length + src.length) (b := b') (cap := cap') (sz := inf.size) (A := A') (by simp [Ctx.add]) (by omega) (fun h0 => by simpa using hA' h0)
        simpa using this
      by_cases h0 : src.length = 0
      · have hnil : src = [] := List.eq_nil_of_length_eq_zero h0
        subst hnil
        have hX1 : (Value.slice A0 es.length cap = .slice none 0 0) ∨ ∃ g m cap', Value.slice A0 es.length cap = .slice (some g) m cap' ∧ m ≤ cap' := by
          cases A0 with
          | none =>
            left
            have hc0 : cap = 0 := by
              rcases Nat.eq_zero_or_pos cap with e | e
              · exact e
              · exact absurd (hA0 e) (by simp)
            subst hc0
            have hes : es = [] := List.eq_nil_of_length_eq_zero (by omega)
            subst hes; rfl
          | some g => exact .inr ⟨g, _, _, rfl, a3⟩
        have hrun := run_append_nothing (P := P) (w := w) (ty := ty) (A := A) (cp := cp) hu hi hX1
        obtain ⟨c', F', h1, h2⟩ := fin w b cap C el fz [] A0 hd a1 a2 (by simpa using a3) a4 a5 (fun _ _ => rfl) (.inl rfl) (h.new s b hFb).2 (Nat.le_refl _) (fun _ _ => rfl) (by simp) (by simp) (by simp [elt]) hA0
        exact ⟨_, _, hrun, c', F', h1, by simpa using h2⟩
      · obtain ⟨bs, o, rfl, news, hnl, hnc, hnr⟩ := hA (by omega)
        have hadd : ∀ (j : Nat) (v : Value), news[j]? = some v → w.cell? ((⟨bs, o, none⟩ : Addr).add j) = some v := fun j v hj => by rw [Addr.add_lit]; exact hnc j v hj
        have hones : ∀ u ∈ news, u.oneCell' = true := fun u hu => by
          obtain ⟨k, hk⟩ := List.getElem?_of_mem hu
          have hk1 := (List.getElem?_eq_some_iff.1 hk).1
          rw [hnl] at hk1
          have hsz : 0 < inf.size := by omega
          have hi1 : k / inf.size < src.length := (Nat.div_lt_iff_lt_mul hsz).2 hk1
          have hj1 : k % inf.size < (src[k / inf.size]).length := by rw [hlens _ (List.getElem_mem hi1)]; exact Nat.mod_lt _ hsz
          have hdm : k / inf.size * inf.size + k % inf.size = k := by have := Nat.div_add_mod k inf.size; rw [Nat.mul_comm] at this; exact this
          exact (hnr (k / inf.size) (k % inf.size) (src[k / inf.size][k % inf.size]) u (by simp only [elt, List.getElem?_eq_getElem hi1, Option.bind_some, List.getElem?_eq_getElem hj1]) (by rw [hdm]; exact hk)).2.1
        by_cases hroom : es.length + src.length ≤ cap
        · have hA1 := hA0 (by omega)
          subst hA1
          have hfit : es.length * inf.size + news.length ≤ C.size := by rw [hnl, a5, ← Nat.add_mul]; exact Nat.mul_le_mul_right _ hroom
          have hrun := run_append_place (P := P) (ty := ty) hu hi a1 a2 (sLen := es.length) (sCap := cap) (c := cp) hnl hadd hones hroom hfit
          have htl : (C.toList.take (es.length * inf.size)).length = es.length * inf.size := by rw [List.length_take, Array.length_toList (xs := C)]; omega
          have hoth : ∀ q, q ≠ b → (w.setRow b (C.toList.take (es.length * inf.size) ++ news ++ C.toList.drop (es.length * inf.size + news.length)).toArray).heap[q]? = w.heap[q]? := fun q hq => setRow_other w b q _ hq
          have hI : ∀ q, c.I q → (w.setRow b (C.toList.take (es.length * inf.size) ++ news ++ C.toList.drop (es.length * inf.size + news.length)).toArray).heap[q]? = w.heap[q]? := fun q hq => hoth q fun e => by subst e; exact hbI hq
          have hH0 := hd.touch (w' := w.setRow b (C.toList.take (es.length * inf.size) ++ news ++ C.toList.drop (es.length * inf.size + news.length)).toArray) rfl rfl rfl (by simp) hI (fun s' q hq => hoth q fun e => by subst e; exact hbF s' hq.1 hq.2) (fun q hq hl => hoth q fun e => by
            subst e
            rcases (h.new s _ hFb).1 with h1 | h1
            · omega
            · exact hl h1)
          obtain ⟨c', F', h1, h2⟩ := fin _ b cap _ el fz news (some ⟨b, 0, none⟩) hH0 (setRow_heap w b C _ el fz a1) (fun i hi' => a2 i (by simp at hi'; omega)) hroom a4 (by simp; omega) hI (.inl rfl) (by simpa using (h.new s b hFb).2) (by simp) (fun k hk => by
              simp only [List.append_assoc]
              rw [List.getElem?_toArray, List.getElem?_append_left (by omega), List.getElem?_take, if_pos hk]; simp) (fun k hk => by
              simp only [List.append_assoc]
              rw [List.getElem?_toArray, List.getElem?_append_right (by omega), htl, Nat.add_sub_cancel_left, List.getElem?_append_left hk]) hnl hnr (fun _ => rfl)
          exact ⟨_, _, hrun, c', F', h1, h2⟩
        · -- a new row
          have hge := grownCap_ge w (es.length + src.length) cap e
          have hle := grownCap_le_maxLen w (es.length + src.length) cap e hm
          have hfits : Builtin.nextslicecap (es.length + src.length) cap * inf.bytes ≤ 281474976710656 := growslice_fits (by omega) hb
          have hrun : (Builtin.append_ #[t, t] ty #[.slice A0 es.length cap, .slice (some ⟨bs, o, none⟩) src.length cp]).run P w = .ok (.slice (some ⟨w.heap.size, 0, none⟩) (es.length + src.length) (grownCap w (es.length + src.length) cap e))
              (w.drew.alloc (.cells ((C.toList.take (es.length * inf.size)).toArray ++ news.toArray ++ Builtin.zeroCells z.cells (grownCap w (es.length + src.length) cap e - (es.length + src.length))) e)) := by
            have htl : (C.toList.take (es.length * inf.size)).length = es.length * inf.size := by
              rw [List.length_take, Array.length_toList (xs := C), a5]
              have := Nat.mul_le_mul_right inf.size a3; omega
            cases A0 with
            | some g =>
              refine run_append_grow (P := P) w t ty e inf z hu hi hzz g es.length cap (C.toList.take (es.length * inf.size)) htl (fun j v hj => ?_) ⟨bs, o, none⟩ src.length cp news hnl hadd (by omega) (by have := hcut _ 0 hm; simpa using this) hfits
              have hj1 := (List.getElem?_eq_some_iff.1 hj).1
              rw [htl] at hj1
              have hc0 : 0 < cap := by
                rcases Nat.eq_zero_or_pos cap with e0 | e0
                · subst e0; have : es.length = 0 := by omega
                  rw [this] at hj1; simp at hj1
                · exact e0
              cases hA0 hc0
              rw [Addr.add_lit, Nat.zero_add]
              simp only [World.cell?, a1, Option.isSome_none, Bool.false_eq_true, if_false]
              rw [List.getElem?_take, if_pos hj1] at hj
              simpa using hj
            | none =>
              have hc0 : cap = 0 := by
                rcases Nat.eq_zero_or_pos cap with e0 | e0
                · exact e0
                · exact absurd (hA0 e0) (by simp)
              subst hc0
              have hes : es = [] := List.eq_nil_of_length_eq_zero (by omega)
              subst hes
              have := run_append_nil (P := P) w t ty e inf z hu hi hzz ⟨bs, o, none⟩ src.length cp news hnl hadd (by omega) (hcut _ 0 (by simpa using hm)) (by simp at hb; omega)
              simpa using this
          have hbelow : Bel w.heap.size w (w.drew.alloc (.cells ((C.toList.take (es.length * inf.size)).toArray ++ news.toArray ++ Builtin.zeroCells z.cells (grownCap w (es.length + src.length) cap e - (es.length + src.length))) e)) := ((Bel.refl _ _).drew).alloc (by simp) _
          have htl : (C.toList.take (es.length * inf.size)).toArray.size = es.length * inf.size := by
            have := Nat.mul_le_mul_right inf.size a3
            simp; omega
          obtain ⟨c', F', h1, h2⟩ := fin _ w.heap.size (grownCap w (es.length + src.length) cap e) _ e (0, 0) news (some ⟨w.heap.size, 0, none⟩) (hd.world hbelow) (heap_alloc_new w.drew _) (fun i _ => by simp) hge hle
            (by
              simp only [Array.size_append, htl, List.size_toArray, size_zeroCells, hzsz, hnl, ← Nat.add_mul]
              congr 1; omega) (fun q hq => hbelow.block q (h.imm q hq)) (.inr rfl) (by simp) (by simp)
            (fun k hk => by
              rw [Array.append_assoc, Array.getElem?_append_left (by omega)]
              simp [hk]) (fun k hk => by
              rw [Array.append_assoc, Array.getElem?_append_right (by omega), htl, Nat.add_sub_cancel_left, Array.getElem?_append_left (by simpa using hk)]
              simp) hnl hnr (fun _ => rfl)
          exact ⟨_, _, hrun, c', F', h1, h2⟩
  · exact hk.elim
end
end Go.Proofs.YtjajnladldchcaaDoor
