/- The abstract machine: what each operation that writes nothing does. -/
import Derived.Test.YtlijeincckbdaaaA2
namespace Go.Proofs.Ytlijeincckbdaaa
open Go.RowKit
set_option linter.unusedSimpArgs false
set_option linter.unusedVariables false

def aggD : TypeDesc → Bool
  | .struct _ | .array _ _ => true
  | _ => false
/-- A type's size in cells, and whether its values are aggregates. -/
def tyI (P : Program) (t : TypeId) : Option (Nat × Bool) :=
  match P.info? t, P.underlying t with
  | some i, some d => if aggD d || i.size == 1 then some (i.size, aggD d) else none
  | _, _ => none
/-- A field's offset, size, and whether it is an aggregate. -/
def fldI (P : Program) (s : TypeId) (f : Nat) : Option (Nat × Nat × Bool) :=
  match P.underlying s with
  | some (.struct fs) => match fs[f]? with
    | some f => match tyI P f.type with
      | some (sz, g) => if sz = 0 then none else some (f.offset, sz, g)
      | none => none
    | none => none
  | _ => none
/-- A slice type's element type, its size in cells and in bytes. -/
def elI (P : Program) (t : TypeId) : Option (TypeId × Nat × Nat) :=
  match P.underlying t with
  | some (.slice e) => match P.info? e with
    | some i => if i.size = 0 then none else some (e, i.size, i.bytes)
    | none => none
  | _ => none
/-- The zero value's cells. -/
def zrI (P : Program) (t : TypeId) : Option (List Value) :=
  match P.info? t with
  | some i => match i.zero with
    | some z => if z.cells.toList.all (·.oneCell') then some z.cells.toList else none
    | none => none
  | none => none
/-- What is known of a type, in one row. -/
inductive TyKd where
  | int (k : IntKind) | str | bool | sl | struct (n : Nat) | other
structure TyRow where
  ty : Option (Nat × Bool)
  fld : List (Option (Nat × Nat × Bool))
  el : Option (TypeId × Nat × Nat)
  zr : Option (List Value)
  kd : TyKd
def kdOf : Option TypeDesc → Option TyKd
  | some (.int k) => some (.int k)
  | some .string => some .str
  | some .bool => some .bool
  | some (.slice _) => some .sl
  | some (.struct fs) => some (.struct fs.size)
  | some _ => some .other
  | none => none
def nfOf : Option TyKd → Nat
  | some (.struct n) => n
  | _ => 0
def rowOf (P : Program) (t : TypeId) : Option TyRow :=
  match kdOf (P.underlying t) with
  | some k => some ⟨tyI P t, (List.range (nfOf (some k))).map (fldI P t), elI P t, zrI P t, k⟩
  | none => none

/-- A table of rows, as a tree. -/
inductive Tab where
  | nil
  | node (t : Nat) (r : TyRow) (a b : Tab)
  | marks (l own : List Nat) (ord : List (Nat × List Nat)) (a : Tab)
def Tab.get : Tab → Nat → Option TyRow
  | .nil, _ => none
  | .node t r a b, k => if k = t then some r else if k < t then a.get k else b.get k
  | .marks _ _ _ a, k => a.get k
/-- The functions that write into what they are lent. -/
def Tab.wr : Tab → List Nat
  | .marks l _ _ _ => l
  | _ => []
/-- Those of them whose contract is a step of the caller's own state. -/
def Tab.own : Tab → List Nat
  | .marks _ l _ _ => l
  | _ => []
/-- Of regions that are walked in another order than their text's: their numbers, this order. -/
def Tab.ord : Tab → List (Nat × List Nat)
  | .marks _ _ b _ => b
  | _ => []
/-- The table tells what the program's types are. -/
def Tab.ok (P : Program) : Tab → Prop
  | .nil => True
  | .node t r a b => rowOf P t = some r ∧ a.ok P ∧ b.ok P
  | .marks _ _ _ a => a.ok P
theorem Tab.get_ok {P : Program} : ∀ {E : Tab}, E.ok P → ∀ {t : Nat} {r : TyRow}, E.get t = some r → rowOf P t = some r
  | .nil, _, t, r, h => by simp [Tab.get] at h
  | .node k q a b, hE, t, r, h => by
    simp only [Tab.get] at h
    split at h
    · rename_i e; subst e; cases h; exact hE.1
    · split at h
      · exact Tab.get_ok hE.2.1 h
      · exact Tab.get_ok hE.2.2 h
  | .marks _ _ _ a, hE, t, r, h => Tab.get_ok (E := a) hE h

def Tab.ty (E : Tab) (t : TypeId) : Option (Nat × Bool) := match E.get t with | some r => r.ty | none => none
def Tab.fld (E : Tab) (t : TypeId) (f : Nat) : Option (Nat × Nat × Bool) := match E.get t with | some r => (match r.fld[f]? with | some x => x | none => none) | none => none
def Tab.el (E : Tab) (t : TypeId) : Option (TypeId × Nat × Nat) := match E.get t with | some r => r.el | none => none
def Tab.zr (E : Tab) (t : TypeId) : Option (List Value) := match E.get t with | some r => r.zr | none => none
def Tab.kd (E : Tab) (t : TypeId) : Option TyKd := match E.get t with | some r => some r.kd | none => none

section
variable {P : Program} {E : Tab} (hE : E.ok P)
include hE
theorem Tab.row {t : TypeId} {r : TyRow} (h : E.get t = some r) : tyI P t = r.ty ∧ (∀ f : Nat, f < r.fld.length → r.fld[f]? = some (fldI P t f)) ∧ elI P t = r.el ∧ zrI P t = r.zr ∧ kdOf (P.underlying t) = some r.kd ∧ r.fld.length = nfOf (some r.kd) := by
  have := Tab.get_ok hE h
  unfold rowOf at this
  split at this
  · rename_i k hk
    cases this
    exact ⟨rfl, fun f hf => by simp at hf; simp [hf], rfl, rfl, hk, by simp⟩
  · cases this
theorem Tab.ty_ok {t : TypeId} {x : Nat × Bool} (h : E.ty t = some x) : tyI P t = some x := by
  unfold Tab.ty at h
  split at h
  · rename_i r hr; rw [(Tab.row hE hr).1]; exact h
  · cases h
theorem Tab.fld_ok {t : TypeId} {f : Nat} {x : Nat × Nat × Bool} (h : E.fld t f = some x) : fldI P t f = some x := by
  unfold Tab.fld at h
  split at h
  · rename_i r hr
    split at h
    · rename_i y hy
      have := (Tab.row hE hr).2.1 f (List.getElem?_eq_some_iff.1 hy).1
      rw [hy] at this
      cases this; exact h
    · cases h
  · cases h
theorem Tab.el_ok {t : TypeId} {x : TypeId × Nat × Nat} (h : E.el t = some x) : elI P t = some x := by
  unfold Tab.el at h
  split at h
  · rename_i r hr; rw [(Tab.row hE hr).2.2.1]; exact h
  · cases h
theorem Tab.zr_ok {t : TypeId} {x : List Value} (h : E.zr t = some x) : zrI P t = some x := by
  unfold Tab.zr at h
  split at h
  · rename_i r hr; rw [(Tab.row hE hr).2.2.2.1]; exact h
  · cases h
theorem Tab.kd_ok {t : TypeId} {x : TyKd} (h : E.kd t = some x) : kdOf (P.underlying t) = some x := by
  unfold Tab.kd at h
  split at h
  · rename_i r hr; rw [(Tab.row hE hr).2.2.2.2.1]; exact h
  · cases h
theorem Tab.str_ok {t : TypeId} (h : E.kd t = some .str) : P.underlying t = some .string := by
  have := Tab.kd_ok hE h
  unfold kdOf at this
  split at this <;> first | assumption | cases this
theorem Tab.int_ok {t : TypeId} {k : IntKind} (h : E.kd t = some (.int k)) : P.underlying t = some (.int k) := by
  have := Tab.kd_ok hE h
  unfold kdOf at this
  split at this <;> first | (cases this; assumption) | cases this
theorem Tab.bool_ok {t : TypeId} (h : E.kd t = some .bool) : P.underlying t = some .bool := by
  have := Tab.kd_ok hE h
  unfold kdOf at this
  split at this <;> first | assumption | cases this
theorem Tab.sl_ok {t : TypeId} (h : E.kd t = some .sl) : ∃ e, P.underlying t = some (.slice e) := by
  have := Tab.kd_ok hE h
  unfold kdOf at this
  split at this <;> first | exact ⟨_, by assumption⟩ | cases this
theorem Tab.struct_ok {t n : Nat} (h : E.kd t = some (.struct n)) : ∃ fs, P.underlying t = some (.struct fs) ∧ fs.size = n := by
  have := Tab.kd_ok hE h
  unfold kdOf at this
  split at this <;> first | (cases this; exact ⟨_, by assumption, rfl⟩) | cases this
theorem Tab.some_ok {t : TypeId} {x : TyKd} (h : E.kd t = some x) : (P.underlying t).isSome = true := by
  have := Tab.kd_ok hE h
  unfold kdOf at this
  split at this <;> first | cases this; done | (rename_i h; rw [h]; rfl) | skip
  all_goals (rename_i h; first | (rw [h]; rfl) | (cases this))
end

def mkT (g : Bool) (xs : List AV) : T :=
  if g then .agg (xs.map AV.bor) else match xs with
    | [x] => .one x.bor
    | _ => .dead

def T.cells : T → Option (List AV)
  | .one x => some [x]
  | .agg xs => some xs
  | _ => none

abbrev News := List (Nat × Blk)

section
variable (E : Tab) (m : Nat → Option Blk) (K : T → News → Prop)

def opPick (c a b : T) : Prop :=
  match c with
  | .one (.lit (.bool cb)) => match cb with
    | true => K a []
    | false => K b []
  | _ => False

def opAlloc (site : Nat) (t : TypeId) : Prop :=
  match E.zr t with
  | some zs => K (.one (.ptr site 0)) [(site, .var (zs.map .lit))]
  | none => False

def opBox (site : Nat) (x : T) : Prop :=
  match x.cells with
  | some xs => K (.one (.ptr site 0)) [(site, .var xs)]
  | none => False

def opLoad (t : TypeId) (a : T) : Prop :=
  match E.ty t with
  | some (sz, g) => match a with
    | .one (.ptr s j) => match m s with
      | some (.var xs) => if j + sz ≤ xs.length then K (mkT g ((xs.drop j).take sz)) [] else False
      | _ => False
    | .one (.eptr s i j) => match m s with
      | some (.row _ _ es) => ∃ e, es[i]? = some e ∧ if j + sz ≤ e.length then K (mkT g ((e.drop j).take sz)) [] else False
      | _ => False
    | .one (.bptr xs j) => if j + sz ≤ xs.length then K (mkT g ((xs.drop j).take sz)) [] else False
    | _ => False
  | none => False

def opFieldAddr (s : TypeId) (f : Nat) (x : T) : Prop :=
  match E.fld s f with
  | some (o, _, _) => match x with
    | .one (.ptr s j) => K (.one (.ptr s (j + o))) []
    | .one (.eptr s i j) => K (.one (.eptr s i (j + o))) []
    | .one (.bptr xs j) => K (.one (.bptr xs (j + o))) []
    | _ => False
  | none => False

def opField (s : TypeId) (f : Nat) (x : T) : Prop :=
  match E.fld s f with
  | some (o, sz, g) => match x with
    | .agg xs => if o + sz ≤ xs.length then K (mkT g ((xs.drop o).take sz)) [] else False
    | _ => False
  | none => False

def opIndexAddr (t : TypeId) (x i : T) : Prop :=
  match E.el t with
  | some (_, sz, _) => match x, i with
    | .one (.loc s off len), .one (.lit (.int _ n)) => ∃ i : Nat, n = (i : Int) ∧ i < len ∧ (match m s with
      | some (.row _ rz _) => if rz = sz then K (.one (.eptr s (off + i) 0)) [] else False
      | _ => False)
    | .one (.row _ rz es), .one (.lit (.int _ n)) => if rz = sz then ∃ i : Nat, n = (i : Int) ∧ ∃ e, es[i]? = some e ∧ K (.one (.bptr e 0)) [] else False
    | _, _ => False
  | none => False

def opIndex (t : TypeId) (x i : T) : Prop :=
  match E.kd t, x, i with
    | some .str, .one (.lit (.string s)), .one (.lit (.int _ n)) => ∃ i : Nat, n = (i : Int) ∧ i < s.size ∧ K (.one (.lit (.int .u8 ((s.data.toList.getD i 0).toNat : Int)))) []
    | _, _, _ => False

def optInt : Option T → Option (Option Int)
  | none => some none
  | some (.one (.lit (.int _ n))) => some (some n)
  | _ => none

def opSlice (t : TypeId) (x : T) (lo hi : Option T) : Prop :=
  match optInt lo, optInt hi with
  | some lo, some hi => match E.kd t with
    | some .str => match x with
      | .one (.lit (.string s)) => 0 ≤ lo.getD 0 ∧ lo.getD 0 ≤ hi.getD s.size ∧ hi.getD s.size ≤ (s.size : Int) ∧
          ∃ s', s' = s.extract (lo.getD 0).toNat (hi.getD s.size).toNat ∧ K (.one (.lit (.string s'))) []
      | _ => False
    | some .sl => match E.el t with
      | some (_, sz, _) => match x with
        | .one (.loc s off len) => 0 ≤ lo.getD 0 ∧ lo.getD 0 ≤ hi.getD len ∧ hi.getD len ≤ (len : Int) ∧ (match m s with
          | some (.row _ rz _) => if rz = sz then ∃ o l, o = off + (lo.getD 0).toNat ∧ l = (hi.getD len).toNat - (lo.getD 0).toNat ∧ K (.one (.loc s o l)) [] else False
          | _ => False)
        | .one (.row _ rz es) => 0 ≤ lo.getD 0 ∧ lo.getD 0 ≤ hi.getD es.length ∧ hi.getD es.length ≤ (es.length : Int) ∧ if rz = sz then
            ∃ es', es' = (es.drop (lo.getD 0).toNat).take ((hi.getD es.length).toNat - (lo.getD 0).toNat) ∧ K (.one (.row false rz es')) [] else False
        | _ => False
      | none => False
    | _ => False
  | _, _ => False

/-- Strings in Go's order. -/
def sless (a b : ByteArray) : Bool := Op.bytesLess a.toList b.toList

def opBin (op : BinOp) (t : TypeId) (x y : T) : Prop :=
  match x, y with
  | .one (.lit (.int k a)), .one (.lit (.int k' b)) =>
    match op with
    | .shl => 0 ≤ b ∧ ∃ r, r = k.wrap (a * 2 ^ (min b.toNat k.bits)) ∧ K (.one (.lit (.int k r))) []
    | .shr => 0 ≤ b ∧ ∃ r, r = a.fdiv (2 ^ (min b.toNat k.bits)) ∧ K (.one (.lit (.int k r))) []
    | op => if k = k' then match op with
      | .add => ∃ r, r = k.wrap (a + b) ∧ K (.one (.lit (.int k r))) []
      | .sub => ∃ r, r = k.wrap (a - b) ∧ K (.one (.lit (.int k r))) []
      | .mul => ∃ r, r = k.wrap (a * b) ∧ K (.one (.lit (.int k r))) []
      | .quo => b ≠ 0 ∧ ∃ r, r = k.wrap (a.tdiv b) ∧ K (.one (.lit (.int k r))) []
      | .rem => b ≠ 0 ∧ ∃ r, r = a.tmod b ∧ K (.one (.lit (.int k r))) []
      | .eql => K (.one (.lit (.bool (decide (a = b))))) []
      | .neq => K (.one (.lit (.bool (!decide (a = b))))) []
      | .lss => K (.one (.lit (.bool (decide (a < b))))) []
      | .leq => K (.one (.lit (.bool (decide (a ≤ b))))) []
      | .gtr => K (.one (.lit (.bool (decide (b < a))))) []
      | .geq => K (.one (.lit (.bool (decide (b ≤ a))))) []
      | .and => K (.one (.lit (.int k (bits .and k a b)))) []
      | .or => K (.one (.lit (.int k (bits .or k a b)))) []
      | .xor => K (.one (.lit (.int k (bits .xor k a b)))) []
      | .andNot => K (.one (.lit (.int k (bits .andNot k a b)))) []
      | _ => False
      else False
  | .one (.lit (.string a)), .one (.lit (.string b)) =>
    match op with
    | .add => a.size + b.size ≤ 9223372036854775807 ∧ K (.one (.lit (.string (a ++ b)))) []
    | .eql => K (.one (.lit (.bool (decide (a = b))))) []
    | .neq => K (.one (.lit (.bool (!decide (a = b))))) []
    | .lss => K (.one (.lit (.bool (sless a b)))) []
    | .leq => K (.one (.lit (.bool (sless a b || decide (a = b))))) []
    | .gtr => K (.one (.lit (.bool (!(sless a b || decide (a = b)))))) []
    | .geq => K (.one (.lit (.bool (!sless a b)))) []
    | _ => False
  | .one (.nn _ _), .one (.lit (.slice none 0 0)) => match E.kd t, op with
    | some .sl, .eql => K (.one (.lit (.bool false))) []
    | some .sl, .neq => K (.one (.lit (.bool true))) []
    | _, _ => False
  | .one (.lit (.slice none _ _)), .one (.lit (.slice none 0 0)) => match E.kd t, op with
    | some .sl, .eql => K (.one (.lit (.bool true))) []
    | some .sl, .neq => K (.one (.lit (.bool false))) []
    | _, _ => False
  | .one (.lit (.bool a)), .one (.lit (.bool b)) =>
    match E.kd t with
    | some .bool => match op with
      | .eql => K (.one (.lit (.bool (a == b)))) []
      | .neq => K (.one (.lit (.bool (!(a == b))))) []
      | _ => False
    | _ => False
  | _, _ => False

def opUn (op : UnOp) (x : T) : Prop :=
  match op, x with
  | .not, .one (.lit (.bool b)) => K (.one (.lit (.bool (!b)))) []
  | .neg, .one (.lit (.int k n)) => ∃ r, r = k.wrap (0 - n) ∧ K (.one (.lit (.int k r))) []
  | .xor, .one (.lit (.int k n)) => K (.one (.lit (.int k (bits .xor k (if k.signed then -1 else k.max) n)))) []
  | _, _ => False

/-- Conversions that make nothing. -/
def opConv (src dst : TypeId) (x : T) : Prop :=
  match x with
  | .one (.lit (.int _ n)) => match E.kd dst, E.kd src with
    | some (.int k), some _ => ∃ r, r = k.wrap n ∧ K (.one (.lit (.int k r))) []
    | _, _ => False
  | .one (.lit (.string s)) => match E.kd dst, E.kd src with
    | some .str, some _ => K (.one (.lit (.string s))) []
    | _, _ => False
  | _ => False

def opNilCheck (x : T) : Prop :=
  match x with
  | .one (.ptr s j) => K (.one (.ptr s j)) []
  | .one (.eptr s i j) => K (.one (.eptr s i j)) []
  | .one (.bptr xs j) => K (.one (.bptr xs j)) []
  | .one (.fn f cs) => K (.one (.fn f cs)) []
  | _ => False

def opExtract (x : T) (i : Nat) : Prop :=
  match x with
  | .tup ts => match ts[i]? with
    | some (false, [y]) => K (.one y) []
    | some (true, ys) => K (.agg ys) []
    | _ => False
  | _ => False

def ones : List T → Option (List AV)
  | [] => some []
  | .one x :: l => (ones l).map (x :: ·)
  | _ :: _ => none

def opMakeFunc (fn : Fn) (first : Nat) (caps : List T) : Prop :=
  match fn, first, ones caps with
  | .func f, 0, some xs => K (.one (.fn f xs)) []
  | _, _, _ => False

def opMakeSlice (site : Nat) (t : TypeId) (l c : T) : Prop :=
  match E.el t, l, c with
  | some (e, sz, by_), .one (.lit (.int _ l)), .one (.lit (.int _ c)) => match E.zr e with
    | some zs => if zs.length = sz then ∃ i : Nat, l = (i : Int) ∧ l ≤ c ∧ (by_ : Int) * c ≤ 281474976710656 ∧ c ≤ (maxLen : Nat) ∧
        K (.one (.loc site 0 i)) [(site, .row true sz (List.replicate i (zs.map .lit)))] else False
    | none => False
  | _, _, _ => False

/-- Parts laid into cells. -/
def fillA (place : Nat → Option (Nat × Nat)) : List (Nat × T) → List AV → Option (List AV)
  | [], xs => some xs
  | (i, t) :: l, xs => match place i, t.cells with
    | some (o, sz), some ys => if ys.length = sz ∧ o + sz ≤ xs.length then fillA place l (xs.take o ++ ys ++ xs.drop (o + sz)) else none
    | _, _ => none

def opBuild (t : TypeId) (ps : List (Nat × T)) : Prop :=
  match E.zr t, E.kd t with
  | some zs, some (.struct n) => match fillA (fun i => match E.fld t i with | some x => some (x.1, x.2.1) | none => none) ps (zs.map .lit), (List.range n).all fun i => (E.fld t i).isSome with
    | some xs, true => K (.agg xs) []
    | _, _ => False
  | _, _ => False

def chunk (sz : Nat) (xs : List AV) : Nat → List (List AV)
  | 0 => []
  | n + 1 => xs.take sz :: chunk sz (xs.drop sz) n

def opBuildSlice (site : Nat) (t : TypeId) (len : Nat) (ps : List (Nat × T)) : Prop :=
  match E.el t with
  | some (e, sz, _) => match E.zr e with
    | some zs => if zs.length = sz ∧ len * sz ≤ 16777216 then (match fillA (fun i => some (i * sz, sz)) ps ((List.replicate len (zs.map .lit)).flatten) with
      | some xs => K (.one (.loc site 0 len)) [(site, .row ((xs.map AV.bor).all AV.isData) sz (chunk sz (xs.map AV.bor) len))]
      | none => False) else False
    | none => False
  | none => False

def opLen (t : TypeId) (x : T) : Prop :=
  match E.kd t, x with
  | some .str, .one (.lit (.string s)) => K (.one (.lit (.int .i64 (s.size : Int)))) []
  | some .sl, .one (.loc _ _ len) => K (.one (.lit (.int .i64 (len : Int)))) []
  | some .sl, .one (.row _ _ es) => K (.one (.lit (.int .i64 (es.length : Int)))) []
  | some .sl, .one (.nn _ es) => K (.one (.lit (.int .i64 (es.length : Int)))) []
  | some .sl, .one (.lit (.slice _ len _)) => K (.one (.lit (.int .i64 (len : Int)))) []
  | _, _ => False

def opMinMax (mx : Bool) (x y : T) : Prop :=
  match x, y with
  | .one (.lit (.int k a)), .one (.lit (.int _ b)) => K (.one (.lit (.int k (if mx then max a b else min a b)))) []
  | _, _ => False
end
end Go.Proofs.Ytlijeincckbdaaa
