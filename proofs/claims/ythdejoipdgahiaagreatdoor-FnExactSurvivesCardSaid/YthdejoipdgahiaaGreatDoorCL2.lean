/- Texts of the proof: an abstract machine for Go functions, contracts of the program's functions, and the row. -/
import Derived.Test.YthdejoipdgahiaaGreatDoorCL1
import Derived.Test.YthdejoipdgahiaaGreatDoorChecked
import Derived.KernelRfl
import Derived.Lib.Strings
import Derived.Lib.Bytealg
import Derived.Laws.Bits64
import Derived.Laws.BitsLemmas
import Derived.Lib.Slices
import Derived.Lib.Walk
import Derived.Laws.Closers25b
import Derived.Lib.AppendZeros
namespace Go.Proofs.YthdejoipdgahiaaGreatDoor
open Go.RowKit
set_option linter.unusedSimpArgs false
set_option linter.unusedVariables false

theorem eq_int {t : T} {k : IntKind} {a b : Int} (h : t = .one (.lit (.int k a))) (e : a = b) : t = .one (.lit (.int k b)) := by rw [h, e]
theorem eq_str {t : T} {a b : ByteArray} (h : t = .one (.lit (.string a))) (e : a = b) : t = .one (.lit (.string b)) := by rw [h, e]
theorem eq_bool {t : T} {a b : Bool} (h : t = .one (.lit (.bool a))) (e : a = b) : t = .one (.lit (.bool b)) := by rw [h, e]
theorem eq_loc {t : T} {s o l l' : Nat} (h : t = .one (.loc s o l)) (e : l = l') : t = .one (.loc s o l') := by rw [h, e]
theorem eq_row {t : Option Blk} {p : Bool} {sz : Nat} {es es' : List (List AV)} (h : t = some (.row p sz es)) (e : es = es') : t = some (.row p sz es') := by rw [h, e]
theorem eq_var {t : Option Blk} {xs ys : List AV} (h : t = some (.var xs)) (e : xs = ys) : t = some (.var ys) := by rw [h, e]

def LG {α : Type} (I : α → Prop) (m : α → Nat) (S : α → AS) : AS → Nat → Prop := fun σ k => ∃ a, I a ∧ k = m a ∧ σ = S a
theorem lg_init {α : Type} {I : α → Prop} {m : α → Nat} {S : α → AS} {σ : AS} (a : α) (hI : I a) (h : Weak σ (S a)) : ∃ σ' k, Weak σ σ' ∧ LG I m S σ' k := ⟨_, _, h, a, hI, rfl, rfl⟩
theorem lg_back {α : Type} {I : α → Prop} {m : α → Nat} {S : α → AS} {σ : AS} {k : Nat} (a : α) (hI : I a) (hk : m a < k) (h : Weak σ (S a)) : ∃ σ' k', Weak σ σ' ∧ k' < k ∧ LG I m S σ' k' := ⟨_, _, h, hk, a, hI, rfl, rfl⟩

theorem la_lit {m : Nat → Option Blk} {n : Nat} {v u : Value} (h : u = v) : LendA m n (.lit v) (.lit u) := by
  subst h
  cases u with
  | slice A a b => cases A <;> cases a <;> cases b <;> cases n <;> exact Or.inl rfl
  | _ => cases n <;> exact Or.inl rfl
theorem la_cell {m : Nat → Option Blk} {n : Nat} {x : AV} (h : x.isCell = true) : LendA m n x x := by
  cases x with
  | lit v => exact la_lit rfl
  | row o sz es => exact la_row rfl rfl
  | _ => cases h
theorem all2_cell {m : Nat → Option Blk} {n : Nat} : ∀ {xs : List AV}, xs.all AV.isCell = true → all2 (LendA m n) xs xs
  | [], _ => trivial
  | x :: xs, h => by
    simp only [List.all_cons, Bool.and_eq_true] at h
    exact ⟨la_cell h.1, all2_cell h.2⟩
theorem lend_same {m : Nat → Option Blk} {xs ys : List AV} (e : ys = xs) (h : ys.all AV.isCell = true) : LendT m (.agg xs) (.agg ys) := by subst e; exact all2_cell h
theorem la_bor {m : Nat → Option Blk} {n : Nat} {x : AV} (h : x.isCell = true) : LendA m n x.bor x := by
  cases x with
  | lit v => exact la_lit rfl
  | row o sz es => exact la_row rfl rfl
  | _ => cases h
theorem all2_bor {m : Nat → Option Blk} {n : Nat} : ∀ {xs : List AV}, xs.all AV.isCell = true → all2 (LendA m n) (xs.map AV.bor) xs
  | [], _ => trivial
  | x :: xs, h => by
    simp only [List.all_cons, Bool.and_eq_true] at h
    exact ⟨la_bor h.1, all2_bor h.2⟩
theorem lend_bor {m : Nat → Option Blk} {xs ys : List AV} (e : xs = ys.map AV.bor) (h : ys.all AV.isCell = true) : LendT m (.agg xs) (.agg ys) := by subst e; exact all2_bor h
theorem lend_dead {m : Nat → Option Blk} {t : T} : LendT m t .dead := by cases t <;> trivial
theorem la_loc' {m : Nat → Option Blk} {n s off len sz sz' : Nat} {o : Bool} {es es' : List (List AV)} (hm : m s = some (.row true sz es)) (h0 : sz' = sz) (h1 : off + len ≤ es.length) (h : es' = (es.drop off).take len) : LendA m n (.loc s off len) (.row o sz' es') := by
  subst h h0
  cases n <;> simp [LendA, hm, h1]
theorem la_fn {m : Nat → Option Blk} {n : Nat} {f f' : FuncId} {caps caps' : List AV} (h : f' = f) (h2 : all2 (LendA m n) caps caps') : LendA m (n + 1) (.fn f caps) (.fn f' caps') := ⟨h, h2⟩
theorem la_ptr {m : Nat → Option Blk} {n s j j' : Nat} {xs xs' : List AV} (hm : m s = some (.var xs)) (h : j' = j) (h1 : xs'.all AV.isFree = true) (h2 : all2 (LendA m n) xs xs') : LendA m (n + 1) (.ptr s j) (.bptr xs' j') := by
  subst h
  simp only [LendA, hm]
  first | exact ⟨rfl, h1, h2⟩ | exact ⟨trivial, h1, h2⟩
theorem la_bptr {m : Nat → Option Blk} {n j j' : Nat} {xs xs' : List AV} (h : xs' = xs) (h1 : j' = j) : LendA m n (.bptr xs j) (.bptr xs' j') := by cases n <;> exact ⟨h, h1⟩
theorem at_mid {α : Type} {A B : List α} {x : α} {i : Nat} (h : A.length = i) : (A ++ x :: B)[i]? = some x := by subst h; simp
theorem set_mid {α : Type} {A B : List α} {x y : α} {i : Nat} (h : A.length = i) : A ++ y :: B = (A ++ x :: B).set i y := by subst h; simp
theorem at_eq {α : Type} {es A B : List α} {x : α} {i : Nat} (h : es = A ++ x :: B) (hl : A.length = i) : es[i]? = some x := by rw [h]; exact at_mid hl
theorem set_eq {α : Type} {es A B : List α} {x y : α} {i : Nat} (h : es = A ++ x :: B) (hl : A.length = i) : A ++ y :: B = es.set i y := by rw [h]; exact set_mid hl
theorem at_map {α β : Type} {f : α → β} {l : List α} {i : Nat} (h : i < l.length) : (l.map f)[i]? = some (f l[i]) := by simp [h]
theorem closeTs_cons {m : Nat → Option Blk} {x y : Bool × List AV} {xs ys : List (Bool × List AV)} (h0 : x.1 = y.1) (h : closeL m x.2 y.2) (h' : closeTs m xs ys) : closeTs m (x :: xs) (y :: ys) := ⟨h0, h, h'⟩
theorem nbRow_map {α : Type} {f : α → List AV} (h : ∀ x, (f x).all (AV.nb 5) = true) (l : List α) : nbRow (l.map f) = true := by
  simp only [nbRow, List.all_eq_true, List.mem_map, forall_exists_index, and_imp]
  rintro e x _ rfl
  exact List.all_eq_true.1 (h x)
theorem onm_cons {l : List Nat} {s : Nat} {k : Blk} {ml : List (Nat × Blk)} (h : k.only l = true) (h' : (ml.all fun p => p.2.only l) = true) : (((s, k) :: ml).all fun p => p.2.only l) = true := by simp [h, h']
theorem onm_nil {l : List Nat} : (([] : List (Nat × Blk)).all fun p => p.2.only l) = true := rfl
theorem sf_rows {es : List (List AV)} (h : nbRow es = true) : (es.all fun e => e.all fun x => x.nb 5 || x.safe) = true := by
  simp only [nbRow, List.all_eq_true] at h
  simp only [List.all_eq_true]
  intro e he x hx
  rw [h e he x hx]; rfl
theorem sf_row {p : Bool} {sz : Nat} {es : List (List AV)} (h : nbRow es = true) : (Blk.row p sz es).safe = true := sf_rows h
theorem nbRows_cons {sz : Nat} {es : List (List AV)} {bs : List (Nat × List (List AV))} (h : nbRow es = true) (h' : nbRows bs = true) : nbRows ((sz, es) :: bs) = true := by simp only [nbRows, List.all_cons, Bool.and_eq_true]; exact ⟨h, h'⟩
theorem nbRows_nil : nbRows [] = true := rfl
theorem hasRows_nil {m : Nat → Option Blk} : hasRows m [] [] := trivial
theorem hasRows_cons {m : Nat → Option Blk} {s : Nat} {ss : List Nat} {b : Nat × List (List AV)} {bs : List (Nat × List (List AV))} (h : m s = some (.row true b.1 b.2)) (h' : hasRows m ss bs) : hasRows m (s :: ss) (b :: bs) := ⟨h, h'⟩
theorem rens_nil {ss : List Nat} : RenTs ss [] [] := trivial
theorem rens_cons {ss : List Nat} {x y : T} {xs ys : List T} (h : RenT ss x y) (h' : RenTs ss xs ys) : RenTs ss (x :: xs) (y :: ys) := ⟨h, h'⟩
theorem ren_one {ss : List Nat} {x y : AV} (h : RenA ss x y) : RenT ss (.one x) (.one y) := h
theorem ren_agg {ss : List Nat} {xs ys : List AV} (h : all2 (RenA ss) xs ys) : RenT ss (.agg xs) (.agg ys) := h
def litA (u : Nat → Value) (i : Nat) : AV → AV
  | .row _ _ _ => .lit (u i)
  | x => x
def litL (u : Nat → Value) : Nat → List AV → List AV
  | _, [] => []
  | i, x :: xs => litA u i x :: litL u (i + 1) xs
def T.wid : T → Nat
  | .one _ => 1
  | .agg xs => xs.length
  | _ => 0
def litT (u : Nat → Value) (i : Nat) : T → T
  | .one x => .one (litA u i x)
  | .agg xs => .agg (litL u i xs)
  | t => t
def litTs (u : Nat → Value) : Nat → List T → List T
  | _, [] => []
  | i, t :: ts => litT u i t :: litTs u (i + t.wid) ts
def flatT : T → List AV
  | .one x => [x]
  | .agg xs => xs
  | _ => []
def flatTs : List T → List AV
  | [] => []
  | t :: ts => flatT t ++ flatTs ts
def parM (u : Nat → Value) (args : List T) (s : Nat) : Option Blk := match (flatTs args)[s]? with
  | some (.row o sz es) => some (.par (u s) (.row o sz es))
  | _ => none
def flatV : List T → List Value → List Value
  | .one _ :: ts, v :: vs => v :: flatV ts vs
  | .agg _ :: ts, .agg us :: vs => us.toList ++ flatV ts vs
  | _ :: ts, _ :: vs => flatV ts vs
  | _, _ => []

section
variable {P : Program} {w : World} {I : Nat → Prop}
theorem litA_ok {c : Ctx} (hc : ∀ b, I b → c.I b) {u : Nat → Value} {i : Nat} {x : AV} {v : Value} (h : R (c0 I) w x v) (hu : u i = v) : R c w (litA u i x) v := by
  have h' : R c w x v := h.mono (fun s j hs => by cases hs) hc (fun _ _ => rfl)
  cases x <;> first | exact h' | (subst hu; exact .lit _)
theorem litL_ok {c : Ctx} (hc : ∀ b, I b → c.I b) {u : Nat → Value} : ∀ {xs : List AV} {vs : List Value} {i : Nat}, RL (c0 I) w xs vs → (∀ j v, vs[j]? = some v → u (i + j) = v) → RL c w (litL u i xs) vs
  | [], [], _, _, _ => trivial
  | x :: xs, v :: vs, i, h, hu => ⟨⟨litA_ok hc h.1.1 (hu 0 v rfl), h.1.2⟩, litL_ok hc h.2 fun j v' hv => by have := hu (j + 1) v' (by simpa using hv); rw [show i + 1 + j = i + (j + 1) by omega]; exact this⟩
theorem litTs_ok {c : Ctx} (hc : ∀ b, I b → c.I b) {u : Nat → Value} : ∀ {ts : List T} {vs : List Value} {i : Nat}, (ts.all fun t => match t with | .one _ => true | .agg _ => true | _ => false) = true → RTL (c0 I) w ts vs → (∀ j v, (flatV ts vs)[j]? = some v → u (i + j) = v) → RTL c w (litTs u i ts) vs
  | [], [], _, _, _, _ => trivial
  | .one x :: ts, v :: vs, i, ha, h, hu => ⟨⟨litA_ok hc h.1.1 (hu 0 v rfl), h.1.2⟩, litTs_ok hc (by simpa using ha) h.2 fun j v' hv => by have := hu (j + 1) v' (by simpa [flatV] using hv); rw [show i + T.wid (.one x) + j = i + (j + 1) by simp only [T.wid]; omega]; exact this⟩
  | .agg xs :: ts, .agg us :: vs, i, ha, h, hu => ⟨litL_ok hc h.1 fun j v' hv => hu j v' (by simp only [flatV]; rw [List.getElem?_append_left (by exact (List.getElem?_eq_some_iff.1 hv).1)]; exact hv), litTs_ok hc (by simpa using ha) h.2 fun j v' hv => by
      have hl : xs.length = us.toList.length := RL.length h.1
      have := hu (us.toList.length + j) v' (by simp only [flatV]; rw [List.getElem?_append_right (by omega)]; simpa using hv)
      rw [show i + T.wid (.agg xs) + j = i + (us.toList.length + j) by simp only [T.wid]; omega]; exact this⟩
theorem flat_ok {c : Ctx} : ∀ {ts : List T} {vs : List Value}, (ts.all fun t => match t with | .one _ => true | .agg _ => true | _ => false) = true → RTL c w ts vs → RL c w (flatTs ts) (flatV ts vs)
  | [], [], _, _ => trivial
  | .one x :: ts, v :: vs, ha, h => ⟨h.1, flat_ok (by simpa using ha) h.2⟩
  | .agg xs :: ts, .agg us :: vs, ha, h => by
    simp only [flatTs, flatT, flatV]
    have h2 := flat_ok (ts := ts) (vs := vs) (by simpa using ha) h.2
    have key : ∀ {xs ys : List AV} {vs us : List Value}, RL c w xs vs → RL c w ys us → RL c w (xs ++ ys) (vs ++ us) := by
      intro xs
      induction xs with
      | nil => intro ys vs us h h'; cases vs with | nil => exact h' | cons => exact h.elim
      | cons x xs ih => intro ys vs us h h'; cases vs with | nil => exact h.elim | cons v vs => exact ⟨h.1, ih h.2 h'⟩
    exact key h.1 h2

theorem law_of_vc {E : Tab} (hE : E.ok P) {f : FuncId} {fn : Func} {x : Code} {args : List T} {r : T} (hmix : P.follows .mixedOrders = true) (hf : P.funcs[f]? = some fn) (hb : fn.body = some x) (hname : (fn.name == "runtime.NumGoroutine") = false)
    (hok : okCode E fn.ntmps x = true) (hlen : args.length ≤ fn.ntmps) (hnb : r.nb = true) (ha : (args.all fun t => match t with | .one _ => true | .agg _ => true | _ => false) = true)
    (h : ∀ u : Nat → Value, vcCode P E x (fin E fn.results.toList r) (fun _ _ => False) (fin E fn.results.toList r) ⟨fun t => (litTs u 0 args).getD t .dead, parM u args⟩) : Fun1 P f args r := by
  refine ⟨⟨fn, hf, by simp [hb], hname⟩, hnb, fun w I vs hI hgl hargs => ?_⟩
  let u : Nat → Value := fun i => (flatV args vs.toList).getD i default
  have hu : ∀ j v, (flatV args vs.toList)[j]? = some v → u j = v := fun j v hv => by simp [u, List.getD_eq_getElem?_getD, hv]
  let c : Ctx := ⟨fun s => if (parM u args s).isSome then some .nil else none, fun k => k < w.heap.size⟩
  have hargs' : RTL c w (litTs u 0 args) vs.toList := litTs_ok (c := c) hI ha hargs (fun j v hv => by rw [Nat.zero_add]; exact hu j v hv)
  have hll : ∀ {ts : List T} {i : Nat}, (litTs u i ts).length = ts.length := by
    intro ts
    induction ts with
    | nil => intro i; rfl
    | cons t ts ih => intro i; simp [litTs, ih]
  have hvl : vs.toList.length = args.length := by
    have : ∀ {ts : List T} {us : List Value}, RTL (c0 I) w ts us → us.length = ts.length := by
      intro ts
      induction ts with
      | nil => intro us h; cases us with | nil => rfl | cons => exact h.elim
      | cons t ts ih => intro us h; cases us with | nil => exact h.elim | cons u us => simp [ih h.2]
    exact this hargs
  have hat : ∀ {ts : List T} {us : List Value}, RTL c w ts us → ∀ t : Nat, RT c w (ts.getD t .dead) (us.getD t undef) := by
    intro ts
    induction ts with
    | nil => intro us h t; trivial
    | cons t ts ih =>
      intro us h k
      cases us with
      | nil => exact h.elim
      | cons u us =>
        cases k with
        | zero => exact h.1
        | succ k => exact ih h.2 k
  refine calls_of_wp hf hb ?_
  have hH : H w (fun _ => False) fn.ntmps ⟨fun t => (litTs u 0 args).getD t .dead, parM u args⟩ { tmps := vs ++ Array.replicate (fn.ntmps - vs.size) undef, defers := [] } w c (fun _ _ => False) := by
    have hvs : vs.size = args.length := by simpa using hvl
    refine { gl := hgl.mono (fun b hb => ⟨hI b hb, fun h => h⟩) (Nat.le_refl _) (fun _ _ => rfl), keeps := ⟨rfl, rfl, rfl, Nat.le_refl _, fun _ _ _ => rfl, fun _ => Nat.le_refl _⟩, size := by simp; omega, defers := rfl, tm := fun t => ?_, mem := fun s k hk => ?_, dom := fun s hs => ?_, disj := fun _ _ _ h => h.elim, new := fun _ _ h => h.elim, imm := fun _ hk => hk, inn := fun _ _ h => h.elim, par := fun s v x hk => ?_ }
    · have := hat hargs' t
      by_cases ht : t < vs.size
      · have e : (vs ++ Array.replicate (fn.ntmps - vs.size) undef).getD t undef = vs.toList.getD t undef := by
          rw [Array.getD_eq_getD_getElem?, Array.getElem?_append_left ht]
          simp
        rw [e]; exact this
      · have e : (litTs u 0 args).getD t .dead = .dead := by rw [List.getD_eq_getElem?_getD, List.getElem?_eq_none (by rw [hll]; omega)]; rfl
        show RT _ _ ((litTs u 0 args).getD t .dead) _
        rw [e]; trivial
    · replace hk : parM u args s = some k := hk
      have hat0 : c.at_ s = some .nil := by simp [c, hk]
      unfold parM at hk
      split at hk
      · cases hk; exact ⟨hat0, fun _ h => h⟩
      · cases hk
    · replace hs : parM u args s = none := hs
      exact ⟨by simp [c, hs], fun _ h => h⟩
    · replace hk : parM u args s = some (.par v x) := hk
      unfold parM at hk
      split at hk
      · rename_i o sz es hg
        · cases hk
          refine ⟨rfl, ?_, fun k hk => hk.1⟩
          have hfl := flat_ok ha hargs
          have hi := (List.getElem?_eq_some_iff.1 hg).1
          have hl := RL.length hfl
          have hv : (flatV args vs.toList)[s]? = some ((flatV args vs.toList)[s]'(by omega)) := by simp
          have := (hfl.at hg hv).1
          rw [hu _ _ hv]
          exact R.free (c := c0 I) (fun b (hb : I b) => (show oldB w (fun _ => False) b from ⟨hI b hb, fun h => h⟩)) (fun _ _ => rfl) this rfl
      · cases hk
  have done : ∀ σ' a' w', Holds w (fun _ => False) fn.ntmps σ' a' w' → fin E fn.results.toList r σ' → a'.defers = [] ∧ ∃ V, (results fn a'.tmps).run P w' = .ok V w' ∧ ∃ v F, Ending.returned V = .returned v ∧ ROT' (c0 I) w' F r v ∧ (∀ k, F k → w.heap.size ≤ k ∧ k < w'.heap.size) ∧ Bel w.heap.size w w' := by
    rintro σ' a' w' ⟨c', F', h'⟩ hf'
    obtain ⟨V, h1, G, h2, h3⟩ := fin_ok hE h' hf'
    refine ⟨h'.defers, V, h1, V, G, rfl, h2.nb hnb, fun k hk => ?_, ⟨h'.keeps.os, h'.keeps.tape, h'.keeps.output, h'.keeps.size, fun k hk => h'.keeps.block k hk (fun h => h), h'.keeps.dr⟩⟩
    obtain ⟨s, hs⟩ := h3 k hk
    have := h'.new s k hs
    exact ⟨this.1.resolve_right (fun h => h), this.2⟩
  exact vc_ok hE hmix x (n := fn.ntmps) (w0 := w) (L := fun _ => False) hok (fun σ' a' w' h1 h2 => done σ' a' w' h1 h2) (fun _ _ _ _ _ h => h.elim) (fun σ' a' w' h1 h2 => done σ' a' w' h1 h2) (h u) ⟨_, _, hH⟩
end
theorem weak_nil {σ τ : AS} (t s sz : Nat) (ht : σ.tm t = .one (.lit (.slice none 0 0))) (hs : σ.mem s = none) (hw : Weak ⟨fun k => if k = t then .one (.loc s 0 0) else σ.tm k, (σ.add s (.row true sz [])).mem⟩ τ) : Weak σ τ := by
  rintro w0 L n a w ⟨c, F, h⟩
  have h1 := h.addSite' (s := s) (k := .row true sz []) (i := .nil) (G := fun _ => False) hs (fun _ hb => hb.elim) (fun _ _ hb => hb.elim) (.inl ⟨by simp [Ctx.add], rfl, fun _ h => h⟩)
  refine hw _ _ _ _ _ ⟨_, _, h1.keeps, h1.size, h1.defers, fun k => ?_, h1.mem, h1.dom, h1.disj, h1.new, h1.imm, h1.inn, h1.par, h1.gl⟩
  by_cases e : k = t
  · subst e
    have h2 := h.tm k
    rw [ht] at h2
    simp only [if_true]
    have h3 := one_lit h2
    rw [h3]
    exact ⟨.locnil (by simp [Ctx.add]), rfl⟩
  · simp only [if_neg e]
    exact h1.tm k
theorem weak_nilv {σ τ : AS} (r s sz : Nat) (xs ys : List AV) (hr : σ.mem r = some (.var (xs ++ .lit (.slice none 0 0) :: ys))) (hs : σ.mem s = none) (hw : Weak ((σ.add s (.row true sz [])).set r (.var (xs ++ .loc s 0 0 :: ys))) τ) : Weak σ τ := by
  rintro w0 L n a w ⟨c, F, h⟩
  have h1 := h.addSite' (s := s) (k := .row true sz []) (i := .nil) (G := fun _ => False) hs (fun _ hb => hb.elim) (fun _ _ hb => hb.elim) (.inl ⟨by simp [Ctx.add], rfl, fun _ h => h⟩)
  have hne : r ≠ s := fun e => by subst e; rw [hr] at hs; cases hs
  have hr' : (σ.add s (.row true sz [])).mem r = some (.var (xs ++ .lit (.slice none 0 0) :: ys)) := by simp only [AS.add, if_neg hne]; exact hr
  have hb := h1.mem r _ hr'
  refine hw _ _ _ _ _ ⟨_, _, h1.setBlk (k' := .var (xs ++ .loc s 0 0 :: ys)) hr' (fun _ h => h) (fun _ _ => rfl) rfl rfl rfl rfl ?_⟩
  obtain ⟨b, C, e, fz, a1, a2, a3, a4, a5⟩ := hb
  refine ⟨b, C, e, fz, a1, a2, a3, RL.of (by have := a4.length; simpa using this) fun i x v hx hv => ?_, a5⟩
  rcases get_mid hx with ⟨hi, hx⟩ | ⟨rfl, rfl⟩ | ⟨hi, hx⟩
  · exact a4.at (i := i) (by rw [List.getElem?_append_left hi]; exact hx) hv
  · have := a4.at (i := xs.length) (x := .lit (.slice none 0 0)) (by simp) hv
    have h2 := this.1
    cases h2
    exact ⟨.locnil (by simp [Ctx.add]), rfl⟩
  · exact a4.at (i := i) (by rw [List.getElem?_append_right (by omega), show i - xs.length = (i - xs.length - 1) + 1 by omega, List.getElem?_cons_succ]; exact hx) hv
end Go.Proofs.YthdejoipdgahiaaGreatDoor
namespace Go.Proofs.YthdejoipdgahiaaGreatDoor
open Go.RowKit
set_option linter.unusedSimpArgs false
set_option linter.unusedVariables false
def inI (n : Int) : Prop := -9223372036854775808 ≤ n ∧ n ≤ 9223372036854775807
def eInt (n : Int) : List AV := [.lit (.int .i64 n)]
def eStr (s : ByteArray) : List AV := [.lit (.string s)]
def mkL {α : Type} (mk : α → Nat → α) (cn : α → Nat) : List α → Nat → List α
  | [], _ => []
  | x :: l, k => mk x k :: mkL mk cn l (k + cn x)
def cnL {α : Type} (cn : α → Nat) (l : List α) : Nat := (l.map cn).sum
def wL {α : Type} (wt : α → Nat) (l : List α) : Nat := l.length + (l.map wt).sum
theorem mkL_length {α : Type} {mk : α → Nat → α} {cn : α → Nat} : ∀ {l : List α} {k : Nat}, (mkL mk cn l k).length = l.length
  | [], _ => rfl
  | _ :: l, k => by simp [mkL, mkL_length (l := l)]
theorem sum_take_le {α : Type} (f : α → Nat) (l : List α) (i : Nat) : ((l.take i).map f).sum ≤ (l.map f).sum := by
  conv => rhs; rw [← List.take_append_drop i l]
  rw [List.map_append, List.sum_append]; omega
def szF (w : Nat) (left : Int) : Int := if (w : Int) ≤ left then left - w else -1
theorem szF_or (w : Nat) (left : Int) : ((w : Int) ≤ left ∧ szF w left = left - w) ∨ (left < w ∧ szF w left = -1) := by unfold szF; split <;> omega
theorem wsum_take_succ {α : Type} {f : α → Nat} {l : List α} {i : Nat} (h : i < l.length) : ((l.take (i + 1)).map f).sum = ((l.take i).map f).sum + f l[i] := by rw [List.take_succ_eq_append_getElem h, List.map_append, List.sum_append]; rfl
structure DStored where
  name : ByteArray
  text : ByteArray
  synced : Int
def DStored.enc (x : DStored) : List AV := [.lit (.string x.name), .lit (.string x.text), .lit (.int .i64 x.synced)]
def DStored.ok (x : DStored) : Prop := (x.name.size ≤ 4294967296) ∧ (x.text.size ≤ 4294967296) ∧ (inI x.synced)
def DStored.it (x : DStored) : Prop := (x.name.size ≤ 9223372036854775807) ∧ (x.text.size ≤ 9223372036854775807) ∧ (inI x.synced)
def DStored.wt (x : DStored) : Nat := x.name.size + x.text.size
def DStored.cnE (x : DStored) : Nat := 1 + 1 + 1
structure DDrive where
  files : List DStored
  room : Int
def DDrive.enc (x : DDrive) : List AV := [.row true 3 (x.files.map DStored.enc), .lit (.int .i64 x.room)]
def DDrive.ok (x : DDrive) : Prop := (x.files.length ≤ 4294967296 ∧ ∀ y ∈ x.files, y.ok) ∧ (inI x.room)
def DDrive.it (x : DDrive) : Prop := (x.files.length ≤ 9223372036854775807 ∧ ∀ y ∈ x.files, y.it) ∧ (inI x.room)
def DDrive.wt (x : DDrive) : Nat := wL DStored.wt x.files
def DDrive.cnE (x : DDrive) : Nat := (cnL DStored.cnE) x.files + 1
def DDrive.cnV (x : DDrive) : Nat := (cnL DStored.cnE) x.files
structure DArray where
  k : Int
  m : Int
  drives : List DDrive
def DArray.enc (x : DArray) : List AV := [.lit (.int .i64 x.k), .lit (.int .i64 x.m), .row true 2 (x.drives.map DDrive.enc)]
def DArray.ok (x : DArray) : Prop := (inI x.k) ∧ (inI x.m) ∧ (x.drives.length ≤ 4294967296 ∧ ∀ y ∈ x.drives, y.ok)
def DArray.it (x : DArray) : Prop := (inI x.k) ∧ (inI x.m) ∧ (x.drives.length ≤ 9223372036854775807 ∧ ∀ y ∈ x.drives, y.it)
def DArray.wt (x : DArray) : Nat := wL DDrive.wt x.drives
def DArray.cnE (x : DArray) : Nat := 1 + 1 + (cnL DDrive.cnE) x.drives
def DArray.cnV (x : DArray) : Nat := (cnL DDrive.cnE) x.drives
structure DOp where
  kind : Int
  name : ByteArray
  to : ByteArray
  text : ByteArray
def DOp.enc (x : DOp) : List AV := [.lit (.int .i64 x.kind), .lit (.string x.name), .lit (.string x.to), .lit (.string x.text)]
def DOp.ok (x : DOp) : Prop := (inI x.kind) ∧ (x.name.size ≤ 4294967296) ∧ (x.to.size ≤ 4294967296) ∧ (x.text.size ≤ 4294967296)
def DOp.it (x : DOp) : Prop := (inI x.kind) ∧ (x.name.size ≤ 9223372036854775807) ∧ (x.to.size ≤ 9223372036854775807) ∧ (x.text.size ≤ 9223372036854775807)
def DOp.wt (x : DOp) : Nat := x.name.size + x.to.size + x.text.size
def DOp.cnE (x : DOp) : Nat := 1 + 1 + 1 + 1
structure DStep where
  drive : Int
  op : DOp
def DStep.enc (x : DStep) : List AV := [.lit (.int .i64 x.drive), .lit (.int .i64 x.op.kind), .lit (.string x.op.name), .lit (.string x.op.to), .lit (.string x.op.text)]
def DStep.ok (x : DStep) : Prop := (inI x.drive) ∧ (x.op.ok)
def DStep.it (x : DStep) : Prop := (inI x.drive) ∧ (x.op.it)
def DStep.wt (x : DStep) : Nat := x.op.wt
def DStep.cnE (x : DStep) : Nat := 1 + 1 + 1 + 1 + 1
structure DDriveOut where
  drive : DDrive
  code : Int
def DDriveOut.enc (x : DDriveOut) : List AV := [.row true 3 (x.drive.files.map DStored.enc), .lit (.int .i64 x.drive.room), .lit (.int .i64 x.code)]
def DDriveOut.ok (x : DDriveOut) : Prop := (x.drive.ok) ∧ (inI x.code)
def DDriveOut.it (x : DDriveOut) : Prop := (x.drive.it) ∧ (inI x.code)
def DDriveOut.wt (x : DDriveOut) : Nat := x.drive.wt
def DDriveOut.cnE (x : DDriveOut) : Nat := (cnL DStored.cnE) x.drive.files + 1 + 1
def DDriveOut.cnV (x : DDriveOut) : Nat := (cnL DStored.cnE) x.drive.files
structure DArrayOut where
  array : DArray
  done : Int
  code : Int
def DArrayOut.enc (x : DArrayOut) : List AV := [.lit (.int .i64 x.array.k), .lit (.int .i64 x.array.m), .row true 2 (x.array.drives.map DDrive.enc), .lit (.int .i64 x.done), .lit (.int .i64 x.code)]
def DArrayOut.ok (x : DArrayOut) : Prop := (x.array.ok) ∧ (inI x.done) ∧ (inI x.code)
def DArrayOut.it (x : DArrayOut) : Prop := (x.array.it) ∧ (inI x.done) ∧ (inI x.code)
def DArrayOut.wt (x : DArrayOut) : Nat := x.array.wt
def DArrayOut.cnE (x : DArrayOut) : Nat := 1 + 1 + (cnL DDrive.cnE) x.array.drives + 1 + 1
def DArrayOut.cnV (x : DArrayOut) : Nat := (cnL DDrive.cnE) x.array.drives
theorem nb_rowc {n sz : Nat} {es : List (List AV)} : AV.nb (n + 1) (.row true sz es) = es.all fun e => e.all (AV.nb n) := rfl
theorem eStr_nbn (n : Nat) (x : ByteArray) : (eStr x).all (AV.nb n) = true := by cases n <;> rfl
theorem nb_lit (n : Nat) (v : Value) : AV.nb n (.lit v) = true := by cases n <;> rfl
theorem nb_map {α : Type} {f : α → List AV} {n : Nat} {sz : Nat} (h : ∀ x, (f x).all (AV.nb n) = true) (l : List α) : AV.nb (n + 1) (.row true sz (l.map f)) = true := by
  rw [nb_rowc]; simp only [List.all_eq_true, List.mem_map, forall_exists_index, and_imp]
  rintro e x _ rfl
  exact List.all_eq_true.1 (h x)
theorem DStored.enc_nbn (n : Nat) (x : DStored) : x.enc.all (AV.nb (n + 0)) = true := by
  simp only [DStored.enc, List.all_cons, List.all_nil, Bool.and_true, Bool.and_eq_true]
  exact ⟨nb_lit _ _, nb_lit _ _, nb_lit _ _⟩
theorem DStored.enc_nb (x : DStored) : x.enc.all (AV.nb 5) = true := DStored.enc_nbn 5 x
theorem DDrive.enc_nbn (n : Nat) (x : DDrive) : x.enc.all (AV.nb (n + 1)) = true := by
  simp only [DDrive.enc, List.all_cons, List.all_nil, Bool.and_true, Bool.and_eq_true]
  exact ⟨nb_map (n := n + 0) (fun y => DStored.enc_nbn (n + 0) y) _, nb_lit _ _⟩
theorem DDrive.enc_nb (x : DDrive) : x.enc.all (AV.nb 5) = true := DDrive.enc_nbn 4 x
theorem DArray.enc_nbn (n : Nat) (x : DArray) : x.enc.all (AV.nb (n + 2)) = true := by
  simp only [DArray.enc, List.all_cons, List.all_nil, Bool.and_true, Bool.and_eq_true]
  exact ⟨nb_lit _ _, nb_lit _ _, nb_map (n := n + 1) (fun y => DDrive.enc_nbn (n + 0) y) _⟩
theorem DArray.enc_nb (x : DArray) : x.enc.all (AV.nb 5) = true := DArray.enc_nbn 3 x
theorem DOp.enc_nbn (n : Nat) (x : DOp) : x.enc.all (AV.nb (n + 0)) = true := by
  simp only [DOp.enc, List.all_cons, List.all_nil, Bool.and_true, Bool.and_eq_true]
  exact ⟨nb_lit _ _, nb_lit _ _, nb_lit _ _, nb_lit _ _⟩
theorem DOp.enc_nb (x : DOp) : x.enc.all (AV.nb 5) = true := DOp.enc_nbn 5 x
theorem DStep.enc_nbn (n : Nat) (x : DStep) : x.enc.all (AV.nb (n + 0)) = true := by
  simp only [DStep.enc, List.all_cons, List.all_nil, Bool.and_true, Bool.and_eq_true]
  exact ⟨nb_lit _ _, nb_lit _ _, nb_lit _ _, nb_lit _ _, nb_lit _ _⟩
theorem DStep.enc_nb (x : DStep) : x.enc.all (AV.nb 5) = true := DStep.enc_nbn 5 x
theorem DDriveOut.enc_nbn (n : Nat) (x : DDriveOut) : x.enc.all (AV.nb (n + 1)) = true := by
  simp only [DDriveOut.enc, List.all_cons, List.all_nil, Bool.and_true, Bool.and_eq_true]
  exact ⟨nb_map (n := n + 0) (fun y => DStored.enc_nbn (n + 0) y) _, nb_lit _ _, nb_lit _ _⟩
theorem DDriveOut.enc_nb (x : DDriveOut) : x.enc.all (AV.nb 5) = true := DDriveOut.enc_nbn 4 x
theorem DArrayOut.enc_nbn (n : Nat) (x : DArrayOut) : x.enc.all (AV.nb (n + 2)) = true := by
  simp only [DArrayOut.enc, List.all_cons, List.all_nil, Bool.and_true, Bool.and_eq_true]
  exact ⟨nb_lit _ _, nb_lit _ _, nb_map (n := n + 1) (fun y => DDrive.enc_nbn (n + 0) y) _, nb_lit _ _, nb_lit _ _⟩
theorem DArrayOut.enc_nb (x : DArrayOut) : x.enc.all (AV.nb 5) = true := DArrayOut.enc_nbn 3 x
theorem wL_len {α : Type} {f : α → Nat} {l : List α} : l.length ≤ wL f l := by unfold wL; omega
theorem mem_le_sum {α : Type} (f : α → Nat) : ∀ {l : List α} {y : α}, y ∈ l → f y ≤ (l.map f).sum
  | x :: l, y, h => by
    rcases List.mem_cons.1 h with rfl | h
    · simp
    · have := mem_le_sum f h; simp; omega
theorem wL_mem {α : Type} {f : α → Nat} {l : List α} {y : α} (h : y ∈ l) : f y ≤ wL f l := by have := mem_le_sum f h; unfold wL; omega
theorem cnL_le {α : Type} {cn wt : α → Nat} {A B C : Nat} (h : ∀ x, cn x ≤ A * wt x + B) (hA : A ≤ C) (hB : B ≤ C) : ∀ l : List α, cnL cn l ≤ C * wL wt l
  | [] => by simp [cnL]
  | x :: l => by
    have h1 := h x
    have h2 := cnL_le h hA hB l
    have h3 : A * wt x ≤ C * wt x := Nat.mul_le_mul_right _ hA
    have e1 : cnL cn (x :: l) = cn x + cnL cn l := by simp [cnL]
    have e2 : wL wt (x :: l) = 1 + wt x + wL wt l := by simp [wL]; omega
    rw [e1, e2, Nat.mul_add, Nat.mul_add]; omega
theorem DStored.ok_of (x : DStored) (hi : x.it) (hw : x.wt ≤ 4294967296) : x.ok := by
  have he : x.wt = x.name.size + x.text.size := rfl
  unfold DStored.it at hi
  unfold DStored.ok
  exact ⟨by omega, by omega, hi.2.2⟩
theorem DStored.cnE_le (x : DStored) : x.cnE ≤ 0 * x.wt + 3 := by
  have he : x.wt = x.name.size + x.text.size := rfl
  have hc : x.cnE = 1 + 1 + 1 := rfl
  omega
theorem okStoredS_of (l : List DStored) (hi : l.length ≤ 9223372036854775807 ∧ ∀ y ∈ l, y.it) (hw : wL DStored.wt l ≤ 4294967296) : l.length ≤ 4294967296 ∧ ∀ y ∈ l, y.ok := by
  refine ⟨Nat.le_trans wL_len hw, fun y hy => ?_⟩
  have h1 := hi.2 y hy
  have h2 := Nat.le_trans (wL_mem (f := DStored.wt) hy) hw
  exact DStored.ok_of y h1 h2
theorem hypStoredS_of (l : List DStored) (h : l.length ≤ 4294967296 ∧ ∀ y ∈ l, y.ok) : l.length ≤ 4611686018427387904 := by
  have := h.1; omega
theorem cnStoredS_le (l : List DStored) : cnL DStored.cnE l ≤ 3 * wL DStored.wt l := cnL_le (A := 0) (B := 3) (fun x => DStored.cnE_le x) (by decide) (by decide) l
theorem DDrive.ok_of (x : DDrive) (hi : x.it) (hw : x.wt ≤ 4294967296) : x.ok := by
  have he : x.wt = wL DStored.wt x.files := rfl
  unfold DDrive.it at hi
  unfold DDrive.ok
  exact ⟨okStoredS_of _ hi.1 (by omega), hi.2⟩
theorem DDrive.hyp_of (x : DDrive) (h : x.ok) : (x.files.length ≤ 4611686018427387904) := by
  unfold DDrive.ok at h
  exact hypStoredS_of _ h.1
theorem DDrive.cnE_le (x : DDrive) : x.cnE ≤ 3 * x.wt + 1 := by
  have he : x.wt = wL DStored.wt x.files := rfl
  have hc : x.cnE = (cnL DStored.cnE) x.files + 1 := rfl
  have := cnStoredS_le x.files
  omega
theorem DDrive.cnV_le (x : DDrive) : x.cnV ≤ 3 * x.wt := by
  have he : x.wt = wL DStored.wt x.files := rfl
  have hc : x.cnV = (cnL DStored.cnE) x.files := rfl
  have := cnStoredS_le x.files
  omega
theorem okDriveS_of (l : List DDrive) (hi : l.length ≤ 9223372036854775807 ∧ ∀ y ∈ l, y.it) (hw : wL DDrive.wt l ≤ 4294967296) : l.length ≤ 4294967296 ∧ ∀ y ∈ l, y.ok := by
  refine ⟨Nat.le_trans wL_len hw, fun y hy => ?_⟩
  have h1 := hi.2 y hy
  have h2 := Nat.le_trans (wL_mem (f := DDrive.wt) hy) hw
  exact DDrive.ok_of y h1 h2
theorem hypDriveS_of (l : List DDrive) (h : l.length ≤ 4294967296 ∧ ∀ y ∈ l, y.ok) : l.length ≤ 4611686018427387904 ∧ ∀ y ∈ l, (y.files.length ≤ 4611686018427387904) := by
  refine ⟨by have := h.1; omega, fun y hy => ?_⟩
  exact DDrive.hyp_of y (h.2 y hy)
theorem cnDriveS_le (l : List DDrive) : cnL DDrive.cnE l ≤ 3 * wL DDrive.wt l := cnL_le (A := 3) (B := 1) (fun x => DDrive.cnE_le x) (by decide) (by decide) l
theorem DArray.ok_of (x : DArray) (hi : x.it) (hw : x.wt ≤ 4294967296) : x.ok := by
  have he : x.wt = wL DDrive.wt x.drives := rfl
  unfold DArray.it at hi
  unfold DArray.ok
  exact ⟨hi.1, hi.2.1, okDriveS_of _ hi.2.2 (by omega)⟩
theorem DArray.hyp_of (x : DArray) (h : x.ok) : (x.drives.length ≤ 4611686018427387904 ∧ ∀ y ∈ x.drives, (y.files.length ≤ 4611686018427387904)) := by
  unfold DArray.ok at h
  exact hypDriveS_of _ h.2.2
theorem DArray.cnE_le (x : DArray) : x.cnE ≤ 3 * x.wt + 2 := by
  have he : x.wt = wL DDrive.wt x.drives := rfl
  have hc : x.cnE = 1 + 1 + (cnL DDrive.cnE) x.drives := rfl
  have := cnDriveS_le x.drives
  omega
theorem DArray.cnV_le (x : DArray) : x.cnV ≤ 3 * x.wt := by
  have he : x.wt = wL DDrive.wt x.drives := rfl
  have hc : x.cnV = (cnL DDrive.cnE) x.drives := rfl
  have := cnDriveS_le x.drives
  omega
theorem DOp.ok_of (x : DOp) (hi : x.it) (hw : x.wt ≤ 4294967296) : x.ok := by
  have he : x.wt = x.name.size + x.to.size + x.text.size := rfl
  unfold DOp.it at hi
  unfold DOp.ok
  exact ⟨hi.1, by omega, by omega, by omega⟩
theorem DOp.cnE_le (x : DOp) : x.cnE ≤ 0 * x.wt + 4 := by
  have he : x.wt = x.name.size + x.to.size + x.text.size := rfl
  have hc : x.cnE = 1 + 1 + 1 + 1 := rfl
  omega
theorem DStep.ok_of (x : DStep) (hi : x.it) (hw : x.wt ≤ 4294967296) : x.ok := by
  have he : x.wt = x.op.wt := rfl
  unfold DStep.it at hi
  unfold DStep.ok
  exact ⟨hi.1, DOp.ok_of _ hi.2 (by omega)⟩
theorem DStep.cnE_le (x : DStep) : x.cnE ≤ 0 * x.wt + 5 := by
  have he : x.wt = x.op.wt := rfl
  have hc : x.cnE = 1 + 1 + 1 + 1 + 1 := rfl
  have : x.op.wt = x.op.name.size + x.op.to.size + x.op.text.size := rfl
  omega
theorem DDriveOut.ok_of (x : DDriveOut) (hi : x.it) (hw : x.wt ≤ 4294967296) : x.ok := by
  have he : x.wt = x.drive.wt := rfl
  unfold DDriveOut.it at hi
  unfold DDriveOut.ok
  exact ⟨DDrive.ok_of _ hi.1 (by omega), hi.2⟩
theorem DDriveOut.hyp_of (x : DDriveOut) (h : x.ok) : ((x.drive.files.length ≤ 4611686018427387904)) := by
  unfold DDriveOut.ok at h
  exact DDrive.hyp_of _ h.1
theorem DDriveOut.cnE_le (x : DDriveOut) : x.cnE ≤ 3 * x.wt + 2 := by
  have he : x.wt = x.drive.wt := rfl
  have hc : x.cnE = (cnL DStored.cnE) x.drive.files + 1 + 1 := rfl
  have := cnStoredS_le x.drive.files
  have : x.drive.wt = wL DStored.wt x.drive.files := rfl
  omega
theorem DDriveOut.cnV_le (x : DDriveOut) : x.cnV ≤ 3 * x.wt := by
  have he : x.wt = x.drive.wt := rfl
  have hc : x.cnV = (cnL DStored.cnE) x.drive.files := rfl
  have := cnStoredS_le x.drive.files
  have : x.drive.wt = wL DStored.wt x.drive.files := rfl
  omega
theorem DArrayOut.ok_of (x : DArrayOut) (hi : x.it) (hw : x.wt ≤ 4294967296) : x.ok := by
  have he : x.wt = x.array.wt := rfl
  unfold DArrayOut.it at hi
  unfold DArrayOut.ok
  exact ⟨DArray.ok_of _ hi.1 (by omega), hi.2.1, hi.2.2⟩
theorem DArrayOut.hyp_of (x : DArrayOut) (h : x.ok) : ((x.array.drives.length ≤ 4611686018427387904 ∧ ∀ y ∈ x.array.drives, (y.files.length ≤ 4611686018427387904))) := by
  unfold DArrayOut.ok at h
  exact DArray.hyp_of _ h.1
theorem DArrayOut.cnE_le (x : DArrayOut) : x.cnE ≤ 3 * x.wt + 4 := by
  have he : x.wt = x.array.wt := rfl
  have hc : x.cnE = 1 + 1 + (cnL DDrive.cnE) x.array.drives + 1 + 1 := rfl
  have := cnDriveS_le x.array.drives
  have : x.array.wt = wL DDrive.wt x.array.drives := rfl
  omega
theorem DArrayOut.cnV_le (x : DArrayOut) : x.cnV ≤ 3 * x.wt := by
  have he : x.wt = x.array.wt := rfl
  have hc : x.cnV = (cnL DDrive.cnE) x.array.drives := rfl
  have := cnDriveS_le x.array.drives
  have : x.array.wt = wL DDrive.wt x.array.drives := rfl
  omega
end Go.Proofs.YthdejoipdgahiaaGreatDoor
namespace Go.Proofs.YthdejoipdgahiaaGreatDoor
open Go.RowKit
def r0 : TyRow := ⟨some (1, false), [], none, none, .other⟩
theorem row0 : rowOf Tryz.prog 0 = some r0 := by kernel_rfl
def r1 : TyRow := ⟨some (1, false), [], none, some [.nilFunc], .other⟩
theorem row1 : rowOf Tryz.prog 1 = some r1 := by kernel_rfl
def r2 : TyRow := ⟨some (1, false), [], none, some [.int .i64 0], .int .i64⟩
theorem row2 : rowOf Tryz.prog 2 = some r2 := by kernel_rfl
def r3 : TyRow := ⟨some (1, false), [], none, some [.int .i64 0], .int .i64⟩
theorem row3 : rowOf Tryz.prog 3 = some r3 := by kernel_rfl
def r4 : TyRow := ⟨some (1, false), [], none, some [.bool false], .bool⟩
theorem row4 : rowOf Tryz.prog 4 = some r4 := by kernel_rfl
def r5 : TyRow := ⟨some (1, false), [], none, some [.int .u8 0], .int .u8⟩
theorem row5 : rowOf Tryz.prog 5 = some r5 := by kernel_rfl
def r6 : TyRow := ⟨some (1, false), [], none, some [.int .u8 0], .int .u8⟩
theorem row6 : rowOf Tryz.prog 6 = some r6 := by kernel_rfl
def r7 : TyRow := ⟨some (4, true), [some (0, 1, false), some (1, 1, false), some (2, 1, false), some (3, 1, false)], none, some [.int .i64 0, .int .i64 0, .bool false, .int .u8 0], .struct 4⟩
theorem row7 : rowOf Tryz.prog 7 = some r7 := by kernel_rfl
def r8 : TyRow := ⟨some (4, true), [some (0, 1, false), some (1, 1, false), some (2, 1, false), some (3, 1, false)], none, some [.int .i64 0, .int .i64 0, .bool false, .int .u8 0], .struct 4⟩
theorem row8 : rowOf Tryz.prog 8 = some r8 := by kernel_rfl
def r9 : TyRow := ⟨some (1, false), [], none, some [.string .empty], .str⟩
theorem row9 : rowOf Tryz.prog 9 = some r9 := by kernel_rfl
def r10 : TyRow := ⟨some (1, false), [], none, some [.string .empty], .str⟩
theorem row10 : rowOf Tryz.prog 10 = some r10 := by kernel_rfl
def r11 : TyRow := ⟨some (1, false), [], none, some [.string .empty], .str⟩
theorem row11 : rowOf Tryz.prog 11 = some r11 := by kernel_rfl
def r12 : TyRow := ⟨some (1, false), [], none, some [.int .u64 0], .int .u64⟩
theorem row12 : rowOf Tryz.prog 12 = some r12 := by kernel_rfl
def r13 : TyRow := ⟨some (2, true), [some (0, 1, false), some (1, 1, false)], none, some [.string .empty, .int .u64 0], .struct 2⟩
theorem row13 : rowOf Tryz.prog 13 = some r13 := by kernel_rfl
def r14 : TyRow := ⟨some (2, true), [some (0, 1, false), some (1, 1, false)], none, some [.string .empty, .int .u64 0], .struct 2⟩
theorem row14 : rowOf Tryz.prog 14 = some r14 := by kernel_rfl
def r15 : TyRow := ⟨some (1, false), [], none, some [.pointer none], .other⟩
theorem row15 : rowOf Tryz.prog 15 = some r15 := by kernel_rfl
def r16 : TyRow := ⟨some (1, false), [], none, some [.pointer none], .other⟩
theorem row16 : rowOf Tryz.prog 16 = some r16 := by kernel_rfl
def r17 : TyRow := ⟨some (1, false), [], none, some [.pointer none], .other⟩
theorem row17 : rowOf Tryz.prog 17 = some r17 := by kernel_rfl
def r18 : TyRow := ⟨some (1, true), [some (0, 1, false)], none, some [.pointer none], .struct 1⟩
theorem row18 : rowOf Tryz.prog 18 = some r18 := by kernel_rfl
def r19 : TyRow := ⟨some (1, true), [some (0, 1, false)], none, some [.pointer none], .struct 1⟩
theorem row19 : rowOf Tryz.prog 19 = some r19 := by kernel_rfl
def r20 : TyRow := ⟨some (1, false), [], none, some [.nilIface], .other⟩
theorem row20 : rowOf Tryz.prog 20 = some r20 := by kernel_rfl
def r21 : TyRow := ⟨some (1, false), [], none, some [.int .i32 0], .int .i32⟩
theorem row21 : rowOf Tryz.prog 21 = some r21 := by kernel_rfl
def r22 : TyRow := ⟨some (1, false), [], some (66, 2, 32), some [.slice none 0 0], .sl⟩
theorem row22 : rowOf Tryz.prog 22 = some r22 := by kernel_rfl
def r23 : TyRow := ⟨some (3, true), [some (0, 1, false), some (1, 1, false), some (2, 1, false)], none, some [.int .i64 0, .int .i64 0, .slice none 0 0], .struct 3⟩
theorem row23 : rowOf Tryz.prog 23 = some r23 := by kernel_rfl
def r24 : TyRow := ⟨some (3, true), [some (0, 1, false), some (1, 1, false), some (2, 1, false)], none, some [.int .i64 0, .int .i64 0, .slice none 0 0], .struct 3⟩
theorem row24 : rowOf Tryz.prog 24 = some r24 := by kernel_rfl
def r25 : TyRow := ⟨some (1, false), [], none, some [.nilFunc], .other⟩
theorem row25 : rowOf Tryz.prog 25 = some r25 := by kernel_rfl
def r26 : TyRow := ⟨some (1, false), [], some (48, 5, 64), some [.slice none 0 0], .sl⟩
theorem row26 : rowOf Tryz.prog 26 = some r26 := by kernel_rfl
def r27 : TyRow := ⟨some (1, false), [], none, some [.nilFunc], .other⟩
theorem row27 : rowOf Tryz.prog 27 = some r27 := by kernel_rfl
def r28 : TyRow := ⟨some (1, false), [], some (71, 2, 32), some [.slice none 0 0], .sl⟩
theorem row28 : rowOf Tryz.prog 28 = some r28 := by kernel_rfl
def r29 : TyRow := ⟨some (3, true), [some (0, 1, false), some (1, 1, false), some (2, 1, false)], none, some [.int .i64 0, .int .i64 0, .slice none 0 0], .struct 3⟩
theorem row29 : rowOf Tryz.prog 29 = some r29 := by kernel_rfl
def r30 : TyRow := ⟨some (3, true), [some (0, 1, false), some (1, 1, false), some (2, 1, false)], none, some [.int .i64 0, .int .i64 0, .slice none 0 0], .struct 3⟩
theorem row30 : rowOf Tryz.prog 30 = some r30 := by kernel_rfl
def r31 : TyRow := ⟨some (1, false), [], none, some [.nilFunc], .other⟩
theorem row31 : rowOf Tryz.prog 31 = some r31 := by kernel_rfl
def r32 : TyRow := ⟨some (1, false), [], none, some [.nilFunc], .other⟩
theorem row32 : rowOf Tryz.prog 32 = some r32 := by kernel_rfl
def r33 : TyRow := ⟨some (1, false), [], none, some [.nilFunc], .other⟩
theorem row33 : rowOf Tryz.prog 33 = some r33 := by kernel_rfl
def r34 : TyRow := ⟨some (1, false), [], none, some [.nilFunc], .other⟩
theorem row34 : rowOf Tryz.prog 34 = some r34 := by kernel_rfl
def r35 : TyRow := ⟨some (1, false), [], none, some [.nilFunc], .other⟩
theorem row35 : rowOf Tryz.prog 35 = some r35 := by kernel_rfl
def r36 : TyRow := ⟨some (1, false), [], none, some [.nilFunc], .other⟩
theorem row36 : rowOf Tryz.prog 36 = some r36 := by kernel_rfl
def r37 : TyRow := ⟨some (1, false), [], none, some [.nilFunc], .other⟩
theorem row37 : rowOf Tryz.prog 37 = some r37 := by kernel_rfl
def r38 : TyRow := ⟨some (1, false), [], none, some [.nilFunc], .other⟩
theorem row38 : rowOf Tryz.prog 38 = some r38 := by kernel_rfl
def r39 : TyRow := ⟨some (1, false), [], none, some [.nilFunc], .other⟩
theorem row39 : rowOf Tryz.prog 39 = some r39 := by kernel_rfl
def r40 : TyRow := ⟨some (1, false), [], none, some [.nilFunc], .other⟩
theorem row40 : rowOf Tryz.prog 40 = some r40 := by kernel_rfl
def r41 : TyRow := ⟨some (1, false), [], none, some [.nilFunc], .other⟩
theorem row41 : rowOf Tryz.prog 41 = some r41 := by kernel_rfl
def r42 : TyRow := ⟨some (1, false), [], none, some [.nilFunc], .other⟩
theorem row42 : rowOf Tryz.prog 42 = some r42 := by kernel_rfl
def r43 : TyRow := ⟨some (1, false), [], none, some [.nilFunc], .other⟩
theorem row43 : rowOf Tryz.prog 43 = some r43 := by kernel_rfl
def r44 : TyRow := ⟨some (1, false), [], none, some [.nilFunc], .other⟩
theorem row44 : rowOf Tryz.prog 44 = some r44 := by kernel_rfl
def r45 : TyRow := ⟨some (4, true), [some (0, 1, false), some (1, 1, false), some (2, 1, false), some (3, 1, false)], none, some [.int .i64 0, .string .empty, .string .empty, .string .empty], .struct 4⟩
theorem row45 : rowOf Tryz.prog 45 = some r45 := by kernel_rfl
def r46 : TyRow := ⟨some (4, true), [some (0, 1, false), some (1, 1, false), some (2, 1, false), some (3, 1, false)], none, some [.int .i64 0, .string .empty, .string .empty, .string .empty], .struct 4⟩
theorem row46 : rowOf Tryz.prog 46 = some r46 := by kernel_rfl
def r47 : TyRow := ⟨some (5, true), [some (0, 1, false), some (1, 4, true)], none, some [.int .i64 0, .int .i64 0, .string .empty, .string .empty, .string .empty], .struct 2⟩
theorem row47 : rowOf Tryz.prog 47 = some r47 := by kernel_rfl
def r48 : TyRow := ⟨some (5, true), [some (0, 1, false), some (1, 4, true)], none, some [.int .i64 0, .int .i64 0, .string .empty, .string .empty, .string .empty], .struct 2⟩
theorem row48 : rowOf Tryz.prog 48 = some r48 := by kernel_rfl
def r49 : TyRow := ⟨some (1, false), [], none, some [.nilFunc], .other⟩
theorem row49 : rowOf Tryz.prog 49 = some r49 := by kernel_rfl
def r50 : TyRow := ⟨some (1, false), [], none, some [.nilFunc], .other⟩
theorem row50 : rowOf Tryz.prog 50 = some r50 := by kernel_rfl
def r51 : TyRow := ⟨some (1, false), [], none, some [.nilFunc], .other⟩
theorem row51 : rowOf Tryz.prog 51 = some r51 := by kernel_rfl
def r52 : TyRow := ⟨some (1, false), [], some (9, 1, 16), some [.slice none 0 0], .sl⟩
theorem row52 : rowOf Tryz.prog 52 = some r52 := by kernel_rfl
def r53 : TyRow := ⟨some (1, false), [], none, some [.nilFunc], .other⟩
theorem row53 : rowOf Tryz.prog 53 = some r53 := by kernel_rfl
def r54 : TyRow := ⟨some (2, true), [some (0, 1, false), some (1, 1, false)], none, some [.string .empty, .int .i64 0], .struct 2⟩
theorem row54 : rowOf Tryz.prog 54 = some r54 := by kernel_rfl
def r55 : TyRow := ⟨some (2, true), [some (0, 1, false), some (1, 1, false)], none, some [.string .empty, .int .i64 0], .struct 2⟩
theorem row55 : rowOf Tryz.prog 55 = some r55 := by kernel_rfl
def r56 : TyRow := ⟨some (1, false), [], none, some [.nilFunc], .other⟩
theorem row56 : rowOf Tryz.prog 56 = some r56 := by kernel_rfl
def r57 : TyRow := ⟨some (1, false), [], none, some [.nilFunc], .other⟩
theorem row57 : rowOf Tryz.prog 57 = some r57 := by kernel_rfl
def r58 : TyRow := ⟨some (1, false), [], none, some [.nilFunc], .other⟩
theorem row58 : rowOf Tryz.prog 58 = some r58 := by kernel_rfl
def r59 : TyRow := ⟨some (1, false), [], some (4, 1, 1), some [.slice none 0 0], .sl⟩
theorem row59 : rowOf Tryz.prog 59 = some r59 := by kernel_rfl
def r60 : TyRow := ⟨some (5, true), [some (0, 1, false), some (1, 1, false), some (2, 1, false), some (3, 1, false), some (4, 1, false)], none, some [.slice none 0 0, .slice none 0 0, .string .empty, .string .empty, .bool false], .struct 5⟩
theorem row60 : rowOf Tryz.prog 60 = some r60 := by kernel_rfl
def r61 : TyRow := ⟨some (5, true), [some (0, 1, false), some (1, 1, false), some (2, 1, false), some (3, 1, false), some (4, 1, false)], none, some [.slice none 0 0, .slice none 0 0, .string .empty, .string .empty, .bool false], .struct 5⟩
theorem row61 : rowOf Tryz.prog 61 = some r61 := by kernel_rfl
def r62 : TyRow := ⟨some (1, false), [], none, some [.nilFunc], .other⟩
theorem row62 : rowOf Tryz.prog 62 = some r62 := by kernel_rfl
def r63 : TyRow := ⟨some (1, false), [], none, some [.nilFunc], .other⟩
theorem row63 : rowOf Tryz.prog 63 = some r63 := by kernel_rfl
def r64 : TyRow := ⟨some (1, false), [], some (153, 3, 40), some [.slice none 0 0], .sl⟩
theorem row64 : rowOf Tryz.prog 64 = some r64 := by kernel_rfl
def r65 : TyRow := ⟨some (2, true), [some (0, 1, false), some (1, 1, false)], none, some [.slice none 0 0, .int .i64 0], .struct 2⟩
theorem row65 : rowOf Tryz.prog 65 = some r65 := by kernel_rfl
def r66 : TyRow := ⟨some (2, true), [some (0, 1, false), some (1, 1, false)], none, some [.slice none 0 0, .int .i64 0], .struct 2⟩
theorem row66 : rowOf Tryz.prog 66 = some r66 := by kernel_rfl
def r67 : TyRow := ⟨some (1, false), [], none, some [.nilFunc], .other⟩
theorem row67 : rowOf Tryz.prog 67 = some r67 := by kernel_rfl
def r68 : TyRow := ⟨some (1, false), [], none, some [.nilFunc], .other⟩
theorem row68 : rowOf Tryz.prog 68 = some r68 := by kernel_rfl
def r69 : TyRow := ⟨some (1, false), [], some (95, 3, 40), some [.slice none 0 0], .sl⟩
theorem row69 : rowOf Tryz.prog 69 = some r69 := by kernel_rfl
def r70 : TyRow := ⟨some (2, true), [some (0, 1, false), some (1, 1, false)], none, some [.slice none 0 0, .int .i64 0], .struct 2⟩
theorem row70 : rowOf Tryz.prog 70 = some r70 := by kernel_rfl
def r71 : TyRow := ⟨some (2, true), [some (0, 1, false), some (1, 1, false)], none, some [.slice none 0 0, .int .i64 0], .struct 2⟩
theorem row71 : rowOf Tryz.prog 71 = some r71 := by kernel_rfl
def r72 : TyRow := ⟨some (1, false), [], some (102, 6, 64), some [.slice none 0 0], .sl⟩
theorem row72 : rowOf Tryz.prog 72 = some r72 := by kernel_rfl
def r73 : TyRow := ⟨some (6, true), [some (0, 1, false), some (1, 1, false), some (2, 1, false), some (3, 1, false), some (4, 1, false), some (5, 1, false)], none, some [.int .i64 0, .slice none 0 0, .slice none 0 0, .slice none 0 0, .string .empty, .bool false], .struct 6⟩
theorem row73 : rowOf Tryz.prog 73 = some r73 := by kernel_rfl
def r74 : TyRow := ⟨some (6, true), [some (0, 1, false), some (1, 1, false), some (2, 1, false), some (3, 1, false), some (4, 1, false), some (5, 1, false)], none, some [.int .i64 0, .slice none 0 0, .slice none 0 0, .slice none 0 0, .string .empty, .bool false], .struct 6⟩
theorem row74 : rowOf Tryz.prog 74 = some r74 := by kernel_rfl
def r75 : TyRow := ⟨some (1, false), [], none, some [.nilFunc], .other⟩
theorem row75 : rowOf Tryz.prog 75 = some r75 := by kernel_rfl
def r76 : TyRow := ⟨some (2, true), [some (0, 1, false), some (1, 1, false)], none, some [.slice none 0 0, .int .i64 0], .struct 2⟩
theorem row76 : rowOf Tryz.prog 76 = some r76 := by kernel_rfl
def r77 : TyRow := ⟨some (2, true), [some (0, 1, false), some (1, 1, false)], none, some [.slice none 0 0, .int .i64 0], .struct 2⟩
theorem row77 : rowOf Tryz.prog 77 = some r77 := by kernel_rfl
def r78 : TyRow := ⟨some (1, false), [], none, some [.nilFunc], .other⟩
theorem row78 : rowOf Tryz.prog 78 = some r78 := by kernel_rfl
def r79 : TyRow := ⟨some (1, false), [], none, some [.nilFunc], .other⟩
theorem row79 : rowOf Tryz.prog 79 = some r79 := by kernel_rfl
def r80 : TyRow := ⟨some (1, false), [], none, some [.nilFunc], .other⟩
theorem row80 : rowOf Tryz.prog 80 = some r80 := by kernel_rfl
def r81 : TyRow := ⟨some (1, false), [], none, some [.nilFunc], .other⟩
theorem row81 : rowOf Tryz.prog 81 = some r81 := by kernel_rfl
def r82 : TyRow := ⟨some (1, false), [], none, some [.nilFunc], .other⟩
theorem row82 : rowOf Tryz.prog 82 = some r82 := by kernel_rfl
def r83 : TyRow := ⟨some (1, false), [], none, some [.nilFunc], .other⟩
theorem row83 : rowOf Tryz.prog 83 = some r83 := by kernel_rfl
def r84 : TyRow := ⟨some (1, false), [], none, some [.nilFunc], .other⟩
theorem row84 : rowOf Tryz.prog 84 = some r84 := by kernel_rfl
def r85 : TyRow := ⟨some (1, false), [], none, some [.nilFunc], .other⟩
theorem row85 : rowOf Tryz.prog 85 = some r85 := by kernel_rfl
def r86 : TyRow := ⟨some (1, false), [], none, some [.nilFunc], .other⟩
theorem row86 : rowOf Tryz.prog 86 = some r86 := by kernel_rfl
def r87 : TyRow := ⟨some (1, false), [], none, some [.nilFunc], .other⟩
theorem row87 : rowOf Tryz.prog 87 = some r87 := by kernel_rfl
def r88 : TyRow := ⟨some (1, false), [], none, some [.nilFunc], .other⟩
theorem row88 : rowOf Tryz.prog 88 = some r88 := by kernel_rfl
def r89 : TyRow := ⟨some (1, false), [], none, some [.nilFunc], .other⟩
theorem row89 : rowOf Tryz.prog 89 = some r89 := by kernel_rfl
def r90 : TyRow := ⟨some (1, false), [], none, some [.nilFunc], .other⟩
theorem row90 : rowOf Tryz.prog 90 = some r90 := by kernel_rfl
def r91 : TyRow := ⟨some (1, false), [], none, some [.nilFunc], .other⟩
theorem row91 : rowOf Tryz.prog 91 = some r91 := by kernel_rfl
def r92 : TyRow := ⟨some (1, false), [], none, some [.nilFunc], .other⟩
theorem row92 : rowOf Tryz.prog 92 = some r92 := by kernel_rfl
def r93 : TyRow := ⟨some (1, false), [], some (5, 1, 1), some [.slice none 0 0], .sl⟩
theorem row93 : rowOf Tryz.prog 93 = some r93 := by kernel_rfl
def r94 : TyRow := ⟨some (3, true), [some (0, 1, false), some (1, 1, false), some (2, 1, false)], none, some [.string .empty, .string .empty, .int .i64 0], .struct 3⟩
theorem row94 : rowOf Tryz.prog 94 = some r94 := by kernel_rfl
def r95 : TyRow := ⟨some (3, true), [some (0, 1, false), some (1, 1, false), some (2, 1, false)], none, some [.string .empty, .string .empty, .int .i64 0], .struct 3⟩
theorem row95 : rowOf Tryz.prog 95 = some r95 := by kernel_rfl
def r96 : TyRow := ⟨some (1, false), [], none, some [.nilFunc], .other⟩
theorem row96 : rowOf Tryz.prog 96 = some r96 := by kernel_rfl
def r97 : TyRow := ⟨some (1, false), [], none, some [.nilFunc], .other⟩
theorem row97 : rowOf Tryz.prog 97 = some r97 := by kernel_rfl
def r98 : TyRow := ⟨some (1, false), [], none, some [.nilFunc], .other⟩
theorem row98 : rowOf Tryz.prog 98 = some r98 := by kernel_rfl
def r99 : TyRow := ⟨some (1, false), [], none, none, .other⟩
theorem row99 : rowOf Tryz.prog 99 = some r99 := by kernel_rfl
def r100 : TyRow := ⟨some (1, false), [], none, some [.nilFunc], .other⟩
theorem row100 : rowOf Tryz.prog 100 = some r100 := by kernel_rfl
def r101 : TyRow := ⟨some (6, true), [some (0, 1, false), some (1, 1, false), some (2, 1, false), some (3, 1, false), some (4, 1, false), some (5, 1, false)], none, some [.int .i64 0, .int .i64 0, .int .i64 0, .int .i64 0, .string .empty, .string .empty], .struct 6⟩
theorem row101 : rowOf Tryz.prog 101 = some r101 := by kernel_rfl
def r102 : TyRow := ⟨some (6, true), [some (0, 1, false), some (1, 1, false), some (2, 1, false), some (3, 1, false), some (4, 1, false), some (5, 1, false)], none, some [.int .i64 0, .int .i64 0, .int .i64 0, .int .i64 0, .string .empty, .string .empty], .struct 6⟩
theorem row102 : rowOf Tryz.prog 102 = some r102 := by kernel_rfl
def r103 : TyRow := ⟨some (1, false), [], none, none, .other⟩
theorem row103 : rowOf Tryz.prog 103 = some r103 := by kernel_rfl
def r104 : TyRow := ⟨some (1, false), [], none, some [.nilFunc], .other⟩
theorem row104 : rowOf Tryz.prog 104 = some r104 := by kernel_rfl
def r105 : TyRow := ⟨some (1, false), [], some (107, 2, 24), some [.slice none 0 0], .sl⟩
theorem row105 : rowOf Tryz.prog 105 = some r105 := by kernel_rfl
def r106 : TyRow := ⟨some (2, true), [some (0, 1, false), some (1, 1, false)], none, some [.bool false, .string .empty], .struct 2⟩
theorem row106 : rowOf Tryz.prog 106 = some r106 := by kernel_rfl
def r107 : TyRow := ⟨some (2, true), [some (0, 1, false), some (1, 1, false)], none, some [.bool false, .string .empty], .struct 2⟩
theorem row107 : rowOf Tryz.prog 107 = some r107 := by kernel_rfl
def r108 : TyRow := ⟨some (1, false), [], none, some [.nilFunc], .other⟩
theorem row108 : rowOf Tryz.prog 108 = some r108 := by kernel_rfl
def r109 : TyRow := ⟨some (1, false), [], none, some [.nilFunc], .other⟩
theorem row109 : rowOf Tryz.prog 109 = some r109 := by kernel_rfl
def r110 : TyRow := ⟨some (1, false), [], none, some [.nilFunc], .other⟩
theorem row110 : rowOf Tryz.prog 110 = some r110 := by kernel_rfl
def r111 : TyRow := ⟨some (1, false), [], none, some [.nilFunc], .other⟩
theorem row111 : rowOf Tryz.prog 111 = some r111 := by kernel_rfl
def r112 : TyRow := ⟨some (1, false), [], none, some [.nilFunc], .other⟩
theorem row112 : rowOf Tryz.prog 112 = some r112 := by kernel_rfl
def r113 : TyRow := ⟨some (1, false), [], none, none, .other⟩
theorem row113 : rowOf Tryz.prog 113 = some r113 := by kernel_rfl
def r114 : TyRow := ⟨some (1, false), [], none, some [.nilFunc], .other⟩
theorem row114 : rowOf Tryz.prog 114 = some r114 := by kernel_rfl
def r115 : TyRow := ⟨some (1, false), [], none, some [.nilFunc], .other⟩
theorem row115 : rowOf Tryz.prog 115 = some r115 := by kernel_rfl
def r116 : TyRow := ⟨some (1, false), [], none, some [.nilFunc], .other⟩
theorem row116 : rowOf Tryz.prog 116 = some r116 := by kernel_rfl
def r117 : TyRow := ⟨some (1, false), [], none, some [.nilFunc], .other⟩
theorem row117 : rowOf Tryz.prog 117 = some r117 := by kernel_rfl
def r118 : TyRow := ⟨some (1, false), [], some (2, 1, 8), some [.slice none 0 0], .sl⟩
theorem row118 : rowOf Tryz.prog 118 = some r118 := by kernel_rfl
def r119 : TyRow := ⟨some (3, true), [some (0, 1, false), some (1, 1, false), some (2, 1, false)], none, some [.int .i64 0, .int .i64 0, .slice none 0 0], .struct 3⟩
theorem row119 : rowOf Tryz.prog 119 = some r119 := by kernel_rfl
def r120 : TyRow := ⟨some (3, true), [some (0, 1, false), some (1, 1, false), some (2, 1, false)], none, some [.int .i64 0, .int .i64 0, .slice none 0 0], .struct 3⟩
theorem row120 : rowOf Tryz.prog 120 = some r120 := by kernel_rfl
def r121 : TyRow := ⟨some (4, true), [some (0, 3, true), some (3, 1, false)], none, some [.int .i64 0, .int .i64 0, .slice none 0 0, .int .i64 0], .struct 2⟩
theorem row121 : rowOf Tryz.prog 121 = some r121 := by kernel_rfl
def r122 : TyRow := ⟨some (4, true), [some (0, 3, true), some (3, 1, false)], none, some [.int .i64 0, .int .i64 0, .slice none 0 0, .int .i64 0], .struct 2⟩
theorem row122 : rowOf Tryz.prog 122 = some r122 := by kernel_rfl
def r123 : TyRow := ⟨some (1, false), [], none, some [.nilFunc], .other⟩
theorem row123 : rowOf Tryz.prog 123 = some r123 := by kernel_rfl
def r124 : TyRow := ⟨some (1, false), [], none, some [.nilFunc], .other⟩
theorem row124 : rowOf Tryz.prog 124 = some r124 := by kernel_rfl
def r125 : TyRow := ⟨some (1, false), [], none, some [.nilFunc], .other⟩
theorem row125 : rowOf Tryz.prog 125 = some r125 := by kernel_rfl
def r126 : TyRow := ⟨some (1, false), [], none, some [.nilFunc], .other⟩
theorem row126 : rowOf Tryz.prog 126 = some r126 := by kernel_rfl
def r127 : TyRow := ⟨some (1, false), [], none, some [.nilFunc], .other⟩
theorem row127 : rowOf Tryz.prog 127 = some r127 := by kernel_rfl
def r128 : TyRow := ⟨some (1, false), [], none, some [.nilFunc], .other⟩
theorem row128 : rowOf Tryz.prog 128 = some r128 := by kernel_rfl
def r129 : TyRow := ⟨some (1, false), [], none, some [.nilFunc], .other⟩
theorem row129 : rowOf Tryz.prog 129 = some r129 := by kernel_rfl
def r130 : TyRow := ⟨some (1, false), [], none, some [.nilFunc], .other⟩
theorem row130 : rowOf Tryz.prog 130 = some r130 := by kernel_rfl
def r131 : TyRow := ⟨some (1, false), [], none, some [.nilFunc], .other⟩
theorem row131 : rowOf Tryz.prog 131 = some r131 := by kernel_rfl
def r132 : TyRow := ⟨some (1, false), [], none, some [.nilFunc], .other⟩
theorem row132 : rowOf Tryz.prog 132 = some r132 := by kernel_rfl
def r133 : TyRow := ⟨some (1, false), [], none, some [.nilFunc], .other⟩
theorem row133 : rowOf Tryz.prog 133 = some r133 := by kernel_rfl
def r134 : TyRow := ⟨some (1, false), [], none, some [.nilFunc], .other⟩
theorem row134 : rowOf Tryz.prog 134 = some r134 := by kernel_rfl
def r135 : TyRow := ⟨some (1, false), [], none, some [.nilFunc], .other⟩
theorem row135 : rowOf Tryz.prog 135 = some r135 := by kernel_rfl
def r136 : TyRow := ⟨some (1, false), [], none, some [.nilFunc], .other⟩
theorem row136 : rowOf Tryz.prog 136 = some r136 := by kernel_rfl
def r137 : TyRow := ⟨some (1, false), [], none, some [.nilFunc], .other⟩
theorem row137 : rowOf Tryz.prog 137 = some r137 := by kernel_rfl
def r138 : TyRow := ⟨some (1, false), [], none, some [.pointer none], .other⟩
theorem row138 : rowOf Tryz.prog 138 = some r138 := by kernel_rfl
def r139 : TyRow := ⟨some (3, true), [some (0, 1, false), some (1, 1, false), some (2, 1, false)], none, some [.string .empty, .int .i64 0, .bool false], .struct 3⟩
theorem row139 : rowOf Tryz.prog 139 = some r139 := by kernel_rfl
def r140 : TyRow := ⟨some (3, true), [some (0, 1, false), some (1, 1, false), some (2, 1, false)], none, some [.string .empty, .int .i64 0, .bool false], .struct 3⟩
theorem row140 : rowOf Tryz.prog 140 = some r140 := by kernel_rfl
def r141 : TyRow := ⟨some (1, false), [], none, some [.nilFunc], .other⟩
theorem row141 : rowOf Tryz.prog 141 = some r141 := by kernel_rfl
def r142 : TyRow := ⟨some (1, false), [], none, some [.nilFunc], .other⟩
theorem row142 : rowOf Tryz.prog 142 = some r142 := by kernel_rfl
def r143 : TyRow := ⟨some (1, false), [], none, some [.nilFunc], .other⟩
theorem row143 : rowOf Tryz.prog 143 = some r143 := by kernel_rfl
def r144 : TyRow := ⟨some (1, false), [], none, some [.nilFunc], .other⟩
theorem row144 : rowOf Tryz.prog 144 = some r144 := by kernel_rfl
def r145 : TyRow := ⟨some (1, false), [], none, none, .other⟩
theorem row145 : rowOf Tryz.prog 145 = some r145 := by kernel_rfl
def r146 : TyRow := ⟨some (1, false), [], none, some [.nilFunc], .other⟩
theorem row146 : rowOf Tryz.prog 146 = some r146 := by kernel_rfl
def r147 : TyRow := ⟨some (1, false), [], none, some [.nilFunc], .other⟩
theorem row147 : rowOf Tryz.prog 147 = some r147 := by kernel_rfl
def r148 : TyRow := ⟨some (1, false), [], none, some [.int .u32 0], .int .u32⟩
theorem row148 : rowOf Tryz.prog 148 = some r148 := by kernel_rfl
def r149 : TyRow := ⟨some (8, true), [], none, some [.int .u32 0, .int .u32 0, .int .u32 0, .int .u32 0, .int .u32 0, .int .u32 0, .int .u32 0, .int .u32 0], .arr 8 148⟩
theorem row149 : rowOf Tryz.prog 149 = some r149 := by kernel_rfl
def r150 : TyRow := ⟨some (1, false), [], none, some [.nilFunc], .other⟩
theorem row150 : rowOf Tryz.prog 150 = some r150 := by kernel_rfl
def r151 : TyRow := ⟨some (1, false), [], none, some [.nilFunc], .other⟩
theorem row151 : rowOf Tryz.prog 151 = some r151 := by kernel_rfl
def r152 : TyRow := ⟨some (1, false), [], none, some [.nilFunc], .other⟩
theorem row152 : rowOf Tryz.prog 152 = some r152 := by kernel_rfl
def r153 : TyRow := ⟨some (3, true), [some (0, 1, false), some (1, 1, false), some (2, 1, false)], none, some [.string .empty, .string .empty, .int .i64 0], .struct 3⟩
theorem row153 : rowOf Tryz.prog 153 = some r153 := by kernel_rfl
def r154 : TyRow := ⟨some (3, true), [some (0, 1, false), some (1, 1, false), some (2, 1, false)], none, some [.int .i64 0, .int .i64 0, .int .i64 0], .struct 3⟩
theorem row154 : rowOf Tryz.prog 154 = some r154 := by kernel_rfl
def r155 : TyRow := ⟨some (3, true), [some (0, 1, false), some (1, 1, false), some (2, 1, false)], none, some [.int .i64 0, .int .i64 0, .int .i64 0], .struct 3⟩
theorem row155 : rowOf Tryz.prog 155 = some r155 := by kernel_rfl
def r156 : TyRow := ⟨some (1, false), [], none, some [.nilFunc], .other⟩
theorem row156 : rowOf Tryz.prog 156 = some r156 := by kernel_rfl
def r157 : TyRow := ⟨some (1, false), [], none, some [.nilFunc], .other⟩
theorem row157 : rowOf Tryz.prog 157 = some r157 := by kernel_rfl
def r158 : TyRow := ⟨some (1, false), [], none, some [.nilFunc], .other⟩
theorem row158 : rowOf Tryz.prog 158 = some r158 := by kernel_rfl
def r159 : TyRow := ⟨some (1, false), [], none, some [.nilFunc], .other⟩
theorem row159 : rowOf Tryz.prog 159 = some r159 := by kernel_rfl
def r160 : TyRow := ⟨some (1, false), [], none, some [.nilFunc], .other⟩
theorem row160 : rowOf Tryz.prog 160 = some r160 := by kernel_rfl
def r161 : TyRow := ⟨some (1, false), [], none, some [.nilFunc], .other⟩
theorem row161 : rowOf Tryz.prog 161 = some r161 := by kernel_rfl
def r162 : TyRow := ⟨some (3, true), [some (0, 1, false), some (1, 1, false), some (2, 1, false)], none, some [.slice none 0 0, .string .empty, .int .i64 0], .struct 3⟩
theorem row162 : rowOf Tryz.prog 162 = some r162 := by kernel_rfl
def r163 : TyRow := ⟨some (3, true), [some (0, 1, false), some (1, 1, false), some (2, 1, false)], none, some [.slice none 0 0, .string .empty, .int .i64 0], .struct 3⟩
theorem row163 : rowOf Tryz.prog 163 = some r163 := by kernel_rfl
def r164 : TyRow := ⟨some (1, false), [], none, some [.nilFunc], .other⟩
theorem row164 : rowOf Tryz.prog 164 = some r164 := by kernel_rfl
def r165 : TyRow := ⟨some (1, false), [], none, some [.nilFunc], .other⟩
theorem row165 : rowOf Tryz.prog 165 = some r165 := by kernel_rfl
def r166 : TyRow := ⟨some (1, false), [], none, some [.nilFunc], .other⟩
theorem row166 : rowOf Tryz.prog 166 = some r166 := by kernel_rfl
def r167 : TyRow := ⟨some (1, false), [], none, some [.nilFunc], .other⟩
theorem row167 : rowOf Tryz.prog 167 = some r167 := by kernel_rfl
def r168 : TyRow := ⟨some (1, false), [], some (118, 1, 24), some [.slice none 0 0], .sl⟩
theorem row168 : rowOf Tryz.prog 168 = some r168 := by kernel_rfl
def r169 : TyRow := ⟨some (1, false), [], none, some [.nilFunc], .other⟩
theorem row169 : rowOf Tryz.prog 169 = some r169 := by kernel_rfl
def r170 : TyRow := ⟨some (1, false), [], none, some [.nilFunc], .other⟩
theorem row170 : rowOf Tryz.prog 170 = some r170 := by kernel_rfl
def r171 : TyRow := ⟨some (1, false), [], none, some [.nilFunc], .other⟩
theorem row171 : rowOf Tryz.prog 171 = some r171 := by kernel_rfl
def r172 : TyRow := ⟨some (1, false), [], none, some [.nilFunc], .other⟩
theorem row172 : rowOf Tryz.prog 172 = some r172 := by kernel_rfl
def r173 : TyRow := ⟨some (1, false), [], none, some [.nilFunc], .other⟩
theorem row173 : rowOf Tryz.prog 173 = some r173 := by kernel_rfl
def r174 : TyRow := ⟨some (1, false), [], none, some [.nilFunc], .other⟩
theorem row174 : rowOf Tryz.prog 174 = some r174 := by kernel_rfl
def r175 : TyRow := ⟨some (1, false), [], none, some [.int .u64 0], .int .u64⟩
theorem row175 : rowOf Tryz.prog 175 = some r175 := by kernel_rfl
def r176 : TyRow := ⟨some (1, false), [], none, some [.nilFunc], .other⟩
theorem row176 : rowOf Tryz.prog 176 = some r176 := by kernel_rfl
def r177 : TyRow := ⟨some (1, false), [], none, some [.nilFunc], .other⟩
theorem row177 : rowOf Tryz.prog 177 = some r177 := by kernel_rfl
def r178 : TyRow := ⟨some (1, false), [], none, some [.nilFunc], .other⟩
theorem row178 : rowOf Tryz.prog 178 = some r178 := by kernel_rfl
def r179 : TyRow := ⟨some (1, false), [], none, none, .other⟩
theorem row179 : rowOf Tryz.prog 179 = some r179 := by kernel_rfl
def r180 : TyRow := ⟨some (1, false), [], none, some [.nilFunc], .other⟩
theorem row180 : rowOf Tryz.prog 180 = some r180 := by kernel_rfl
def r181 : TyRow := ⟨some (1, false), [], none, some [.nilFunc], .other⟩
theorem row181 : rowOf Tryz.prog 181 = some r181 := by kernel_rfl
def r182 : TyRow := ⟨some (1, false), [], none, some [.pointer none], .other⟩
theorem row182 : rowOf Tryz.prog 182 = some r182 := by kernel_rfl
def r183 : TyRow := ⟨some (2, true), [some (0, 1, false), some (1, 1, false)], none, some [.pointer none, .slice none 0 0], .struct 2⟩
theorem row183 : rowOf Tryz.prog 183 = some r183 := by kernel_rfl
def r184 : TyRow := ⟨some (2, true), [some (0, 1, false), some (1, 1, false)], none, some [.pointer none, .slice none 0 0], .struct 2⟩
theorem row184 : rowOf Tryz.prog 184 = some r184 := by kernel_rfl
def r185 : TyRow := ⟨some (1, false), [], none, some [.nilFunc], .other⟩
theorem row185 : rowOf Tryz.prog 185 = some r185 := by kernel_rfl
def r186 : TyRow := ⟨some (1, false), [], none, some [.nilIface], .other⟩
theorem row186 : rowOf Tryz.prog 186 = some r186 := by kernel_rfl
def r187 : TyRow := ⟨some (1, false), [], none, some [.nilIface], .other⟩
theorem row187 : rowOf Tryz.prog 187 = some r187 := by kernel_rfl
def r188 : TyRow := ⟨some (1, false), [], none, none, .other⟩
theorem row188 : rowOf Tryz.prog 188 = some r188 := by kernel_rfl
def r189 : TyRow := ⟨some (1, false), [], none, some [.nilFunc], .other⟩
theorem row189 : rowOf Tryz.prog 189 = some r189 := by kernel_rfl
def r190 : TyRow := ⟨some (64, true), [], none, some [.int .u32 0, .int .u32 0, .int .u32 0, .int .u32 0, .int .u32 0, .int .u32 0, .int .u32 0, .int .u32 0, .int .u32 0, .int .u32 0, .int .u32 0, .int .u32 0, .int .u32 0, .int .u32 0, .int .u32 0, .int .u32 0, .int .u32 0, .int .u32 0, .int .u32 0, .int .u32 0, .int .u32 0, .int .u32 0, .int .u32 0, .int .u32 0, .int .u32 0, .int .u32 0, .int .u32 0, .int .u32 0, .int .u32 0, .int .u32 0, .int .u32 0, .int .u32 0, .int .u32 0, .int .u32 0, .int .u32 0, .int .u32 0, .int .u32 0, .int .u32 0, .int .u32 0, .int .u32 0, .int .u32 0, .int .u32 0, .int .u32 0, .int .u32 0, .int .u32 0, .int .u32 0, .int .u32 0, .int .u32 0, .int .u32 0, .int .u32 0, .int .u32 0, .int .u32 0, .int .u32 0, .int .u32 0, .int .u32 0, .int .u32 0, .int .u32 0, .int .u32 0, .int .u32 0, .int .u32 0, .int .u32 0, .int .u32 0, .int .u32 0, .int .u32 0], .arr 64 148⟩
theorem row190 : rowOf Tryz.prog 190 = some r190 := by kernel_rfl
def r191 : TyRow := ⟨some (1, false), [], none, some [.nilFunc], .other⟩
theorem row191 : rowOf Tryz.prog 191 = some r191 := by kernel_rfl
def r192 : TyRow := ⟨some (1, false), [], none, some [.nilFunc], .other⟩
theorem row192 : rowOf Tryz.prog 192 = some r192 := by kernel_rfl
def r193 : TyRow := ⟨some (1, false), [], none, some [.int .u64 0], .int .u64⟩
theorem row193 : rowOf Tryz.prog 193 = some r193 := by kernel_rfl
def r194 : TyRow := ⟨some (1, false), [], none, some [.nilFunc], .other⟩
theorem row194 : rowOf Tryz.prog 194 = some r194 := by kernel_rfl
def r195 : TyRow := ⟨some (1, false), [], none, some [.nilFunc], .other⟩
theorem row195 : rowOf Tryz.prog 195 = some r195 := by kernel_rfl
def r196 : TyRow := ⟨some (1, false), [], none, some [.nilFunc], .other⟩
theorem row196 : rowOf Tryz.prog 196 = some r196 := by kernel_rfl
def r197 : TyRow := ⟨some (1, false), [], none, some [.nilFunc], .other⟩
theorem row197 : rowOf Tryz.prog 197 = some r197 := by kernel_rfl
def r198 : TyRow := ⟨some (1, false), [], none, none, .other⟩
theorem row198 : rowOf Tryz.prog 198 = some r198 := by kernel_rfl
def r199 : TyRow := ⟨some (1, false), [], none, some [.nilFunc], .other⟩
theorem row199 : rowOf Tryz.prog 199 = some r199 := by kernel_rfl
def r200 : TyRow := ⟨some (1, false), [], none, some [.nilFunc], .other⟩
theorem row200 : rowOf Tryz.prog 200 = some r200 := by kernel_rfl
def r201 : TyRow := ⟨some (1, false), [], none, some [.nilFunc], .other⟩
theorem row201 : rowOf Tryz.prog 201 = some r201 := by kernel_rfl
def r202 : TyRow := ⟨some (1, false), [], none, some [.int .i64 0], .int .i64⟩
theorem row202 : rowOf Tryz.prog 202 = some r202 := by kernel_rfl
def r203 : TyRow := ⟨some (1, false), [], none, none, .other⟩
theorem row203 : rowOf Tryz.prog 203 = some r203 := by kernel_rfl
def r204 : TyRow := ⟨some (1, false), [], none, some [.nilFunc], .other⟩
theorem row204 : rowOf Tryz.prog 204 = some r204 := by kernel_rfl
def r205 : TyRow := ⟨some (1, false), [], none, some [.nilFunc], .other⟩
theorem row205 : rowOf Tryz.prog 205 = some r205 := by kernel_rfl
def r206 : TyRow := ⟨some (1, false), [], none, some [.nilFunc], .other⟩
theorem row206 : rowOf Tryz.prog 206 = some r206 := by kernel_rfl
def r207 : TyRow := ⟨some (1, false), [], none, some [.nilFunc], .other⟩
theorem row207 : rowOf Tryz.prog 207 = some r207 := by kernel_rfl
def r208 : TyRow := ⟨some (1, false), [], none, some [.nilFunc], .other⟩
theorem row208 : rowOf Tryz.prog 208 = some r208 := by kernel_rfl
def r209 : TyRow := ⟨some (1, false), [], none, some [.nilFunc], .other⟩
theorem row209 : rowOf Tryz.prog 209 = some r209 := by kernel_rfl
def r210 : TyRow := ⟨some (1, false), [], none, some [.nilFunc], .other⟩
theorem row210 : rowOf Tryz.prog 210 = some r210 := by kernel_rfl
def r211 : TyRow := ⟨some (1, false), [], none, none, .other⟩
theorem row211 : rowOf Tryz.prog 211 = some r211 := by kernel_rfl
def r212 : TyRow := ⟨some (1, false), [], none, some [.nilFunc], .other⟩
theorem row212 : rowOf Tryz.prog 212 = some r212 := by kernel_rfl
def r213 : TyRow := ⟨some (1, false), [], none, some [.pointer none], .other⟩
theorem row213 : rowOf Tryz.prog 213 = some r213 := by kernel_rfl
def r214 : TyRow := ⟨some (1, false), [], none, some [.nilFunc], .other⟩
theorem row214 : rowOf Tryz.prog 214 = some r214 := by kernel_rfl
def r215 : TyRow := ⟨some (1, false), [], none, some [.nilFunc], .other⟩
theorem row215 : rowOf Tryz.prog 215 = some r215 := by kernel_rfl
def r216 : TyRow := ⟨some (1, false), [], some (148, 1, 4), some [.slice none 0 0], .sl⟩
theorem row216 : rowOf Tryz.prog 216 = some r216 := by kernel_rfl
def r217 : TyRow := ⟨some (1, false), [], none, some [.nilFunc], .other⟩
theorem row217 : rowOf Tryz.prog 217 = some r217 := by kernel_rfl
def r218 : TyRow := ⟨some (1, false), [], none, some [.nilFunc], .other⟩
theorem row218 : rowOf Tryz.prog 218 = some r218 := by kernel_rfl
def r219 : TyRow := ⟨some (1, false), [], none, some [.nilFunc], .other⟩
theorem row219 : rowOf Tryz.prog 219 = some r219 := by kernel_rfl
def r220 : TyRow := ⟨some (1, false), [], none, some [.nilFunc], .other⟩
theorem row220 : rowOf Tryz.prog 220 = some r220 := by kernel_rfl
def r221 : TyRow := ⟨some (1, false), [], none, none, .other⟩
theorem row221 : rowOf Tryz.prog 221 = some r221 := by kernel_rfl
def r222 : TyRow := ⟨some (1, false), [], none, some [.nilFunc], .other⟩
theorem row222 : rowOf Tryz.prog 222 = some r222 := by kernel_rfl
def r223 : TyRow := ⟨some (1, false), [], none, none, .other⟩
theorem row223 : rowOf Tryz.prog 223 = some r223 := by kernel_rfl
def r224 : TyRow := ⟨some (1, false), [], none, some [.nilFunc], .other⟩
theorem row224 : rowOf Tryz.prog 224 = some r224 := by kernel_rfl
def r225 : TyRow := ⟨some (1, false), [], none, some [.int .u64 0], .int .u64⟩
theorem row225 : rowOf Tryz.prog 225 = some r225 := by kernel_rfl
def r226 : TyRow := ⟨some (1, false), [], none, some [.nilFunc], .other⟩
theorem row226 : rowOf Tryz.prog 226 = some r226 := by kernel_rfl
def r227 : TyRow := ⟨some (1, false), [], none, some [.nilFunc], .other⟩
theorem row227 : rowOf Tryz.prog 227 = some r227 := by kernel_rfl
def r228 : TyRow := ⟨some (1, false), [], none, some [.nilFunc], .other⟩
theorem row228 : rowOf Tryz.prog 228 = some r228 := by kernel_rfl
def r229 : TyRow := ⟨some (1, false), [], none, some [.pointer none], .other⟩
theorem row229 : rowOf Tryz.prog 229 = some r229 := by kernel_rfl
def r230 : TyRow := ⟨some (1, false), [], none, some [.nilFunc], .other⟩
theorem row230 : rowOf Tryz.prog 230 = some r230 := by kernel_rfl
def r231 : TyRow := ⟨some (1, false), [], none, some [.nilFunc], .other⟩
theorem row231 : rowOf Tryz.prog 231 = some r231 := by kernel_rfl
def r232 : TyRow := ⟨some (1, false), [], none, some [.nilFunc], .other⟩
theorem row232 : rowOf Tryz.prog 232 = some r232 := by kernel_rfl
def r233 : TyRow := ⟨some (1, false), [], none, some [.nilFunc], .other⟩
theorem row233 : rowOf Tryz.prog 233 = some r233 := by kernel_rfl
def r234 : TyRow := ⟨some (1, false), [], none, some [.nilFunc], .other⟩
theorem row234 : rowOf Tryz.prog 234 = some r234 := by kernel_rfl
def r235 : TyRow := ⟨some (1, false), [], none, some [.pointer none], .other⟩
theorem row235 : rowOf Tryz.prog 235 = some r235 := by kernel_rfl
def r236 : TyRow := ⟨some (1, false), [], none, some [.nilFunc], .other⟩
theorem row236 : rowOf Tryz.prog 236 = some r236 := by kernel_rfl
def r237 : TyRow := ⟨some (1, false), [], none, some [.nilFunc], .other⟩
theorem row237 : rowOf Tryz.prog 237 = some r237 := by kernel_rfl
def r238 : TyRow := ⟨some (1, false), [], none, some [.nilFunc], .other⟩
theorem row238 : rowOf Tryz.prog 238 = some r238 := by kernel_rfl
def r239 : TyRow := ⟨some (1, false), [], none, some [.nilFunc], .other⟩
theorem row239 : rowOf Tryz.prog 239 = some r239 := by kernel_rfl
def r240 : TyRow := ⟨some (1, false), [], none, some [.nilFunc], .other⟩
theorem row240 : rowOf Tryz.prog 240 = some r240 := by kernel_rfl
def r241 : TyRow := ⟨some (1, false), [], none, some [.pointer none], .other⟩
theorem row241 : rowOf Tryz.prog 241 = some r241 := by kernel_rfl
def r242 : TyRow := ⟨some (1, false), [], none, none, .other⟩
theorem row242 : rowOf Tryz.prog 242 = some r242 := by kernel_rfl
def r243 : TyRow := ⟨some (1, false), [], none, some [.nilFunc], .other⟩
theorem row243 : rowOf Tryz.prog 243 = some r243 := by kernel_rfl
def r244 : TyRow := ⟨some (1, false), [], none, some [.nilFunc], .other⟩
theorem row244 : rowOf Tryz.prog 244 = some r244 := by kernel_rfl
def r245 : TyRow := ⟨some (1, false), [], none, some [.nilFunc], .other⟩
theorem row245 : rowOf Tryz.prog 245 = some r245 := by kernel_rfl
def r246 : TyRow := ⟨some (4, true), [some (0, 1, false), some (1, 1, false), some (2, 1, false), some (3, 1, false)], none, some [.pointer none, .pointer none, .pointer none, .string .empty], .struct 4⟩
theorem row246 : rowOf Tryz.prog 246 = some r246 := by kernel_rfl
def r247 : TyRow := ⟨some (4, true), [some (0, 1, false), some (1, 1, false), some (2, 1, false), some (3, 1, false)], none, some [.pointer none, .pointer none, .pointer none, .string .empty], .struct 4⟩
theorem row247 : rowOf Tryz.prog 247 = some r247 := by kernel_rfl
def r248 : TyRow := ⟨some (0, true), [], none, some [], .arr 0 16⟩
theorem row248 : rowOf Tryz.prog 248 = some r248 := by kernel_rfl
def r249 : TyRow := ⟨some (0, true), [none], none, some [], .struct 1⟩
theorem row249 : rowOf Tryz.prog 249 = some r249 := by kernel_rfl
def r250 : TyRow := ⟨some (0, true), [none], none, some [], .struct 1⟩
theorem row250 : rowOf Tryz.prog 250 = some r250 := by kernel_rfl
def r251 : TyRow := ⟨some (1, false), [], none, some [.int .u8 0], .int .u8⟩
theorem row251 : rowOf Tryz.prog 251 = some r251 := by kernel_rfl
def r252 : TyRow := ⟨some (1, false), [], none, some [.int .u8 0], .int .u8⟩
theorem row252 : rowOf Tryz.prog 252 = some r252 := by kernel_rfl
def r253 : TyRow := ⟨some (1, false), [], none, some [.nilFunc], .other⟩
theorem row253 : rowOf Tryz.prog 253 = some r253 := by kernel_rfl
def r254 : TyRow := ⟨some (1, false), [], none, some [.int .i32 0], .int .i32⟩
theorem row254 : rowOf Tryz.prog 254 = some r254 := by kernel_rfl
def r255 : TyRow := ⟨some (1, false), [], none, some [.int .i32 0], .int .i32⟩
theorem row255 : rowOf Tryz.prog 255 = some r255 := by kernel_rfl
def r256 : TyRow := ⟨some (11, true), [some (0, 1, false), some (1, 1, false), some (2, 1, false), some (3, 1, false), some (4, 1, false), some (5, 1, false), some (6, 1, false), some (7, 1, false), some (8, 1, false), some (9, 1, false), some (10, 1, false)], none, some [.int .u64 0, .int .u64 0, .int .u32 0, .int .u8 0, .int .u8 0, .int .u8 0, .int .u8 0, .nilFunc, .pointer none, .int .i32 0, .int .i32 0], .struct 11⟩
theorem row256 : rowOf Tryz.prog 256 = some r256 := by kernel_rfl
def r257 : TyRow := ⟨some (11, true), [some (0, 1, false), some (1, 1, false), some (2, 1, false), some (3, 1, false), some (4, 1, false), some (5, 1, false), some (6, 1, false), some (7, 1, false), some (8, 1, false), some (9, 1, false), some (10, 1, false)], none, some [.int .u64 0, .int .u64 0, .int .u32 0, .int .u8 0, .int .u8 0, .int .u8 0, .int .u8 0, .nilFunc, .pointer none, .int .i32 0, .int .i32 0], .struct 11⟩
theorem row257 : rowOf Tryz.prog 257 = some r257 := by kernel_rfl
def r258 : TyRow := ⟨some (1, false), [], none, some [.nilFunc], .other⟩
theorem row258 : rowOf Tryz.prog 258 = some r258 := by kernel_rfl
def r259 : TyRow := ⟨some (1, false), [], none, some [.nilFunc], .other⟩
theorem row259 : rowOf Tryz.prog 259 = some r259 := by kernel_rfl
def r260 : TyRow := ⟨some (1, false), [], none, some [.nilFunc], .other⟩
theorem row260 : rowOf Tryz.prog 260 = some r260 := by kernel_rfl
def tab : Tab := (.node 130 r130 (.node 65 r65 (.node 32 r32 (.node 16 r16 (.node 8 r8 (.node 4 r4 (.node 2 r2 (.node 1 r1 (.node 0 r0 .nil .nil) .nil) (.node 3 r3 .nil .nil)) (.node 6 r6 (.node 5 r5 .nil .nil) (.node 7 r7 .nil .nil))) (.node 12 r12 (.node 10 r10 (.node 9 r9 .nil .nil) (.node 11 r11 .nil .nil)) (.node 14 r14 (.node 13 r13 .nil .nil) (.node 15 r15 .nil .nil)))) (.node 24 r24 (.node 20 r20 (.node 18 r18 (.node 17 r17 .nil .nil) (.node 19 r19 .nil .nil)) (.node 22 r22 (.node 21 r21 .nil .nil) (.node 23 r23 .nil .nil))) (.node 28 r28 (.node 26 r26 (.node 25 r25 .nil .nil) (.node 27 r27 .nil .nil)) (.node 30 r30 (.node 29 r29 .nil .nil) (.node 31 r31 .nil .nil))))) (.node 49 r49 (.node 41 r41 (.node 37 r37 (.node 35 r35 (.node 34 r34 (.node 33 r33 .nil .nil) .nil) (.node 36 r36 .nil .nil)) (.node 39 r39 (.node 38 r38 .nil .nil) (.node 40 r40 .nil .nil))) (.node 45 r45 (.node 43 r43 (.node 42 r42 .nil .nil) (.node 44 r44 .nil .nil)) (.node 47 r47 (.node 46 r46 .nil .nil) (.node 48 r48 .nil .nil)))) (.node 57 r57 (.node 53 r53 (.node 51 r51 (.node 50 r50 .nil .nil) (.node 52 r52 .nil .nil)) (.node 55 r55 (.node 54 r54 .nil .nil) (.node 56 r56 .nil .nil))) (.node 61 r61 (.node 59 r59 (.node 58 r58 .nil .nil) (.node 60 r60 .nil .nil)) (.node 63 r63 (.node 62 r62 .nil .nil) (.node 64 r64 .nil .nil)))))) (.node 98 r98 (.node 82 r82 (.node 74 r74 (.node 70 r70 (.node 68 r68 (.node 67 r67 (.node 66 r66 .nil .nil) .nil) (.node 69 r69 .nil .nil)) (.node 72 r72 (.node 71 r71 .nil .nil) (.node 73 r73 .nil .nil))) (.node 78 r78 (.node 76 r76 (.node 75 r75 .nil .nil) (.node 77 r77 .nil .nil)) (.node 80 r80 (.node 79 r79 .nil .nil) (.node 81 r81 .nil .nil)))) (.node 90 r90 (.node 86 r86 (.node 84 r84 (.node 83 r83 .nil .nil) (.node 85 r85 .nil .nil)) (.node 88 r88 (.node 87 r87 .nil .nil) (.node 89 r89 .nil .nil))) (.node 94 r94 (.node 92 r92 (.node 91 r91 .nil .nil) (.node 93 r93 .nil .nil)) (.node 96 r96 (.node 95 r95 .nil .nil) (.node 97 r97 .nil .nil))))) (.node 114 r114 (.node 106 r106 (.node 102 r102 (.node 100 r100 (.node 99 r99 .nil .nil) (.node 101 r101 .nil .nil)) (.node 104 r104 (.node 103 r103 .nil .nil) (.node 105 r105 .nil .nil))) (.node 110 r110 (.node 108 r108 (.node 107 r107 .nil .nil) (.node 109 r109 .nil .nil)) (.node 112 r112 (.node 111 r111 .nil .nil) (.node 113 r113 .nil .nil)))) (.node 122 r122 (.node 118 r118 (.node 116 r116 (.node 115 r115 .nil .nil) (.node 117 r117 .nil .nil)) (.node 120 r120 (.node 119 r119 .nil .nil) (.node 121 r121 .nil .nil))) (.node 126 r126 (.node 124 r124 (.node 123 r123 .nil .nil) (.node 125 r125 .nil .nil)) (.node 128 r128 (.node 127 r127 .nil .nil) (.node 129 r129 .nil .nil))))))) (.node 196 r196 (.node 163 r163 (.node 147 r147 (.node 139 r139 (.node 135 r135 (.node 133 r133 (.node 132 r132 (.node 131 r131 .nil .nil) .nil) (.node 134 r134 .nil .nil)) (.node 137 r137 (.node 136 r136 .nil .nil) (.node 138 r138 .nil .nil))) (.node 143 r143 (.node 141 r141 (.node 140 r140 .nil .nil) (.node 142 r142 .nil .nil)) (.node 145 r145 (.node 144 r144 .nil .nil) (.node 146 r146 .nil .nil)))) (.node 155 r155 (.node 151 r151 (.node 149 r149 (.node 148 r148 .nil .nil) (.node 150 r150 .nil .nil)) (.node 153 r153 (.node 152 r152 .nil .nil) (.node 154 r154 .nil .nil))) (.node 159 r159 (.node 157 r157 (.node 156 r156 .nil .nil) (.node 158 r158 .nil .nil)) (.node 161 r161 (.node 160 r160 .nil .nil) (.node 162 r162 .nil .nil))))) (.node 180 r180 (.node 172 r172 (.node 168 r168 (.node 166 r166 (.node 165 r165 (.node 164 r164 .nil .nil) .nil) (.node 167 r167 .nil .nil)) (.node 170 r170 (.node 169 r169 .nil .nil) (.node 171 r171 .nil .nil))) (.node 176 r176 (.node 174 r174 (.node 173 r173 .nil .nil) (.node 175 r175 .nil .nil)) (.node 178 r178 (.node 177 r177 .nil .nil) (.node 179 r179 .nil .nil)))) (.node 188 r188 (.node 184 r184 (.node 182 r182 (.node 181 r181 .nil .nil) (.node 183 r183 .nil .nil)) (.node 186 r186 (.node 185 r185 .nil .nil) (.node 187 r187 .nil .nil))) (.node 192 r192 (.node 190 r190 (.node 189 r189 .nil .nil) (.node 191 r191 .nil .nil)) (.node 194 r194 (.node 193 r193 .nil .nil) (.node 195 r195 .nil .nil)))))) (.node 229 r229 (.node 213 r213 (.node 205 r205 (.node 201 r201 (.node 199 r199 (.node 198 r198 (.node 197 r197 .nil .nil) .nil) (.node 200 r200 .nil .nil)) (.node 203 r203 (.node 202 r202 .nil .nil) (.node 204 r204 .nil .nil))) (.node 209 r209 (.node 207 r207 (.node 206 r206 .nil .nil) (.node 208 r208 .nil .nil)) (.node 211 r211 (.node 210 r210 .nil .nil) (.node 212 r212 .nil .nil)))) (.node 221 r221 (.node 217 r217 (.node 215 r215 (.node 214 r214 .nil .nil) (.node 216 r216 .nil .nil)) (.node 219 r219 (.node 218 r218 .nil .nil) (.node 220 r220 .nil .nil))) (.node 225 r225 (.node 223 r223 (.node 222 r222 .nil .nil) (.node 224 r224 .nil .nil)) (.node 227 r227 (.node 226 r226 .nil .nil) (.node 228 r228 .nil .nil))))) (.node 245 r245 (.node 237 r237 (.node 233 r233 (.node 231 r231 (.node 230 r230 .nil .nil) (.node 232 r232 .nil .nil)) (.node 235 r235 (.node 234 r234 .nil .nil) (.node 236 r236 .nil .nil))) (.node 241 r241 (.node 239 r239 (.node 238 r238 .nil .nil) (.node 240 r240 .nil .nil)) (.node 243 r243 (.node 242 r242 .nil .nil) (.node 244 r244 .nil .nil)))) (.node 253 r253 (.node 249 r249 (.node 247 r247 (.node 246 r246 .nil .nil) (.node 248 r248 .nil .nil)) (.node 251 r251 (.node 250 r250 .nil .nil) (.node 252 r252 .nil .nil))) (.node 257 r257 (.node 255 r255 (.node 254 r254 .nil .nil) (.node 256 r256 .nil .nil)) (.node 259 r259 (.node 258 r258 .nil .nil) (.node 260 r260 .nil .nil))))))))
theorem tab_ok : tab.ok Tryz.prog := ⟨row130, ⟨row65, ⟨row32, ⟨row16, ⟨row8, ⟨row4, ⟨row2, ⟨row1, ⟨row0, trivial, trivial⟩, trivial⟩, ⟨row3, trivial, trivial⟩⟩, ⟨row6, ⟨row5, trivial, trivial⟩, ⟨row7, trivial, trivial⟩⟩⟩, ⟨row12, ⟨row10, ⟨row9, trivial, trivial⟩, ⟨row11, trivial, trivial⟩⟩, ⟨row14, ⟨row13, trivial, trivial⟩, ⟨row15, trivial, trivial⟩⟩⟩⟩, ⟨row24, ⟨row20, ⟨row18, ⟨row17, trivial, trivial⟩, ⟨row19, trivial, trivial⟩⟩, ⟨row22, ⟨row21, trivial, trivial⟩, ⟨row23, trivial, trivial⟩⟩⟩, ⟨row28, ⟨row26, ⟨row25, trivial, trivial⟩, ⟨row27, trivial, trivial⟩⟩, ⟨row30, ⟨row29, trivial, trivial⟩, ⟨row31, trivial, trivial⟩⟩⟩⟩⟩, ⟨row49, ⟨row41, ⟨row37, ⟨row35, ⟨row34, ⟨row33, trivial, trivial⟩, trivial⟩, ⟨row36, trivial, trivial⟩⟩, ⟨row39, ⟨row38, trivial, trivial⟩, ⟨row40, trivial, trivial⟩⟩⟩, ⟨row45, ⟨row43, ⟨row42, trivial, trivial⟩, ⟨row44, trivial, trivial⟩⟩, ⟨row47, ⟨row46, trivial, trivial⟩, ⟨row48, trivial, trivial⟩⟩⟩⟩, ⟨row57, ⟨row53, ⟨row51, ⟨row50, trivial, trivial⟩, ⟨row52, trivial, trivial⟩⟩, ⟨row55, ⟨row54, trivial, trivial⟩, ⟨row56, trivial, trivial⟩⟩⟩, ⟨row61, ⟨row59, ⟨row58, trivial, trivial⟩, ⟨row60, trivial, trivial⟩⟩, ⟨row63, ⟨row62, trivial, trivial⟩, ⟨row64, trivial, trivial⟩⟩⟩⟩⟩⟩, ⟨row98, ⟨row82, ⟨row74, ⟨row70, ⟨row68, ⟨row67, ⟨row66, trivial, trivial⟩, trivial⟩, ⟨row69, trivial, trivial⟩⟩, ⟨row72, ⟨row71, trivial, trivial⟩, ⟨row73, trivial, trivial⟩⟩⟩, ⟨row78, ⟨row76, ⟨row75, trivial, trivial⟩, ⟨row77, trivial, trivial⟩⟩, ⟨row80, ⟨row79, trivial, trivial⟩, ⟨row81, trivial, trivial⟩⟩⟩⟩, ⟨row90, ⟨row86, ⟨row84, ⟨row83, trivial, trivial⟩, ⟨row85, trivial, trivial⟩⟩, ⟨row88, ⟨row87, trivial, trivial⟩, ⟨row89, trivial, trivial⟩⟩⟩, ⟨row94, ⟨row92, ⟨row91, trivial, trivial⟩, ⟨row93, trivial, trivial⟩⟩, ⟨row96, ⟨row95, trivial, trivial⟩, ⟨row97, trivial, trivial⟩⟩⟩⟩⟩, ⟨row114, ⟨row106, ⟨row102, ⟨row100, ⟨row99, trivial, trivial⟩, ⟨row101, trivial, trivial⟩⟩, ⟨row104, ⟨row103, trivial, trivial⟩, ⟨row105, trivial, trivial⟩⟩⟩, ⟨row110, ⟨row108, ⟨row107, trivial, trivial⟩, ⟨row109, trivial, trivial⟩⟩, ⟨row112, ⟨row111, trivial, trivial⟩, ⟨row113, trivial, trivial⟩⟩⟩⟩, ⟨row122, ⟨row118, ⟨row116, ⟨row115, trivial, trivial⟩, ⟨row117, trivial, trivial⟩⟩, ⟨row120, ⟨row119, trivial, trivial⟩, ⟨row121, trivial, trivial⟩⟩⟩, ⟨row126, ⟨row124, ⟨row123, trivial, trivial⟩, ⟨row125, trivial, trivial⟩⟩, ⟨row128, ⟨row127, trivial, trivial⟩, ⟨row129, trivial, trivial⟩⟩⟩⟩⟩⟩⟩, ⟨row196, ⟨row163, ⟨row147, ⟨row139, ⟨row135, ⟨row133, ⟨row132, ⟨row131, trivial, trivial⟩, trivial⟩, ⟨row134, trivial, trivial⟩⟩, ⟨row137, ⟨row136, trivial, trivial⟩, ⟨row138, trivial, trivial⟩⟩⟩, ⟨row143, ⟨row141, ⟨row140, trivial, trivial⟩, ⟨row142, trivial, trivial⟩⟩, ⟨row145, ⟨row144, trivial, trivial⟩, ⟨row146, trivial, trivial⟩⟩⟩⟩, ⟨row155, ⟨row151, ⟨row149, ⟨row148, trivial, trivial⟩, ⟨row150, trivial, trivial⟩⟩, ⟨row153, ⟨row152, trivial, trivial⟩, ⟨row154, trivial, trivial⟩⟩⟩, ⟨row159, ⟨row157, ⟨row156, trivial, trivial⟩, ⟨row158, trivial, trivial⟩⟩, ⟨row161, ⟨row160, trivial, trivial⟩, ⟨row162, trivial, trivial⟩⟩⟩⟩⟩, ⟨row180, ⟨row172, ⟨row168, ⟨row166, ⟨row165, ⟨row164, trivial, trivial⟩, trivial⟩, ⟨row167, trivial, trivial⟩⟩, ⟨row170, ⟨row169, trivial, trivial⟩, ⟨row171, trivial, trivial⟩⟩⟩, ⟨row176, ⟨row174, ⟨row173, trivial, trivial⟩, ⟨row175, trivial, trivial⟩⟩, ⟨row178, ⟨row177, trivial, trivial⟩, ⟨row179, trivial, trivial⟩⟩⟩⟩, ⟨row188, ⟨row184, ⟨row182, ⟨row181, trivial, trivial⟩, ⟨row183, trivial, trivial⟩⟩, ⟨row186, ⟨row185, trivial, trivial⟩, ⟨row187, trivial, trivial⟩⟩⟩, ⟨row192, ⟨row190, ⟨row189, trivial, trivial⟩, ⟨row191, trivial, trivial⟩⟩, ⟨row194, ⟨row193, trivial, trivial⟩, ⟨row195, trivial, trivial⟩⟩⟩⟩⟩⟩, ⟨row229, ⟨row213, ⟨row205, ⟨row201, ⟨row199, ⟨row198, ⟨row197, trivial, trivial⟩, trivial⟩, ⟨row200, trivial, trivial⟩⟩, ⟨row203, ⟨row202, trivial, trivial⟩, ⟨row204, trivial, trivial⟩⟩⟩, ⟨row209, ⟨row207, ⟨row206, trivial, trivial⟩, ⟨row208, trivial, trivial⟩⟩, ⟨row211, ⟨row210, trivial, trivial⟩, ⟨row212, trivial, trivial⟩⟩⟩⟩, ⟨row221, ⟨row217, ⟨row215, ⟨row214, trivial, trivial⟩, ⟨row216, trivial, trivial⟩⟩, ⟨row219, ⟨row218, trivial, trivial⟩, ⟨row220, trivial, trivial⟩⟩⟩, ⟨row225, ⟨row223, ⟨row222, trivial, trivial⟩, ⟨row224, trivial, trivial⟩⟩, ⟨row227, ⟨row226, trivial, trivial⟩, ⟨row228, trivial, trivial⟩⟩⟩⟩⟩, ⟨row245, ⟨row237, ⟨row233, ⟨row231, ⟨row230, trivial, trivial⟩, ⟨row232, trivial, trivial⟩⟩, ⟨row235, ⟨row234, trivial, trivial⟩, ⟨row236, trivial, trivial⟩⟩⟩, ⟨row241, ⟨row239, ⟨row238, trivial, trivial⟩, ⟨row240, trivial, trivial⟩⟩, ⟨row243, ⟨row242, trivial, trivial⟩, ⟨row244, trivial, trivial⟩⟩⟩⟩, ⟨row253, ⟨row249, ⟨row247, ⟨row246, trivial, trivial⟩, ⟨row248, trivial, trivial⟩⟩, ⟨row251, ⟨row250, trivial, trivial⟩, ⟨row252, trivial, trivial⟩⟩⟩, ⟨row257, ⟨row255, ⟨row254, trivial, trivial⟩, ⟨row256, trivial, trivial⟩⟩, ⟨row259, ⟨row258, trivial, trivial⟩, ⟨row260, trivial, trivial⟩⟩⟩⟩⟩⟩⟩⟩
theorem mix : Tryz.prog.follows .mixedOrders = true := by kernel_rfl
def tb : Tab := .marks [11, 12, 29, 59, 190, 191, 195, 198, 199, 60, 92, 93, 97, 98, 123, 153, 217] [60, 92, 93, 97, 98, 123, 153, 217] [] tab
theorem tb_ok : tb.ok Tryz.prog := tab_ok
def tbF (o : List (Nat × OT)) : Tab := .marks [11, 12, 29, 59, 190, 191, 195, 198, 199, 60, 92, 93, 97, 98, 123, 153, 217] [60, 92, 93, 97, 98, 123, 153, 217] o tab
theorem tbF_ok (o : List (Nat × OT)) : (tbF o).ok Tryz.prog := tab_ok
end Go.Proofs.YthdejoipdgahiaaGreatDoor
namespace Go.Proofs.YthdejoipdgahiaaGreatDoor
open Go.RowKit
set_option linter.unusedSimpArgs false
set_option linter.unusedVariables false
set_option maxRecDepth 100000
theorem szStored_c (x : DStored) (left : Int) (hx : x.it) (h0 : 0 ≤ left) (h1 : left ≤ 1048576) : Fun1 Tryz.prog 107 [.agg x.enc, .one (.lit (.int .i64 left))] (.one (.lit (.int .i64 (szF x.wt left)))) := by
  unfold DStored.it at hx
  obtain ⟨hx0, hx1, hx2⟩ := hx
  have hw : x.wt = x.name.size + x.text.size := rfl
  refine fun1_of_vc tb_ok mix (fn := Tryz.f107) Tryz.func107 rfl (by kernel_rfl) (by kernel_rfl) (by simp [Tryz.f107]) (by rfl) ?_
  (conv => whnf)
  refine ⟨left - (x.name.size : Nat), wrap64_id (by omega) (by omega), ?_⟩; (conv => whnf)
  (split <;> rename_i h <;> (try simp only [decide_eq_true_eq, decide_eq_false_iff_not, Bool.not_eq_true', Bool.not_eq_false', Bool.not_eq_true, Bool.not_eq_false, List.length_map] at h) <;> conv => whnf)
  · refine ⟨close_int ?_, trivial⟩; have := szF_or x.wt left; omega
  refine ⟨left - (x.name.size : Nat) - (x.text.size : Nat), wrap64_id (by omega) (by omega), ?_⟩; (conv => whnf)
  (split <;> rename_i h <;> (try simp only [decide_eq_true_eq, decide_eq_false_iff_not, Bool.not_eq_true', Bool.not_eq_false', Bool.not_eq_true, Bool.not_eq_false, List.length_map] at h) <;> conv => whnf)
  · refine ⟨close_int ?_, trivial⟩; have := szF_or x.wt left; omega
  refine ⟨close_int ?_, trivial⟩; have := szF_or x.wt left; omega
theorem toStored_c (x : DStored) (h : x.wt ≤ 1048576) : Fun1 Tryz.prog 122 [.agg x.enc] (.agg x.enc) := by
  have hw : x.wt = x.name.size + x.text.size := rfl
  refine fun1_of_vc tb_ok mix (fn := Tryz.f122) Tryz.func122 rfl (by kernel_rfl) (by kernel_rfl) (by simp [Tryz.f122]) (by exact DStored.enc_nb _) ?_
  (conv => whnf)
  exact (by repeat' (first | exact trivial | exact close_int rfl | exact close_str rfl | exact close_bool rfl | exact close_int (by omega) | exact close_row rfl rfl (by first | rfl | simp) (by first | rfl | simp) | exact close_nil (by first | rfl | simp) | exact rfl | apply And.intro | apply closeTs_cons rfl))
theorem eqStored_c (x : DStored) (hx : x.ok) : Fun1 Tryz.prog 130 [.agg x.enc, .agg x.enc] (.one (.lit (.bool true))) := by
  unfold DStored.ok at hx
  obtain ⟨hx0, hx1, hx2⟩ := hx
  refine fun1_of_vc tb_ok mix (fn := Tryz.f130) Tryz.func130 rfl (by kernel_rfl) (by kernel_rfl) (by simp [Tryz.f130]) (by rfl) ?_
  (conv => whnf)
  (first | (split <;> rename_i h <;> first | (exfalso; first | (simp at h; done) | (simp at h; omega) | (simp_all; done) | (simp_all; omega)) | (conv => whnf)) | skip)
  (first | (split <;> rename_i h <;> first | (exfalso; first | (simp at h; done) | (simp at h; omega) | (simp_all; done) | (simp_all; omega)) | (conv => whnf)) | skip)
  (first | (split <;> rename_i h <;> first | (exfalso; first | (simp at h; done) | (simp at h; omega) | (simp_all; done) | (simp_all; omega)) | (conv => whnf)) | skip)
  exact (by repeat' (first | exact trivial | exact close_int rfl | exact close_str rfl | exact close_bool rfl | exact close_int (by omega) | exact close_row rfl rfl (by first | rfl | simp) (by first | rfl | simp) | exact close_nil (by first | rfl | simp) | exact rfl | apply And.intro | apply closeTs_cons rfl))
theorem lendA {m : Nat → Option Blk} {ts us : List T} (h : LendTs m ts us := by repeat' (first | exact lends_nil | exact lend_dead | apply lends_cons | apply lend_agg | apply lend_one | exact all2_nil | apply all2_cons | exact la_lit rfl | exact la_int (by first | rfl | omega) | exact la_row rfl rfl | exact la_loc rfl rfl rfl (by first | rfl | simp [mkL_length]) (by first | rfl | simp) | exact la_nil rfl | apply la_fn rfl | exact lend_same rfl rfl | exact lend_bor rfl rfl)) : LendTs m ts us := h
theorem szStoredS_c (x : List DStored) (left : Int) (hl : x.length ≤ 9223372036854775807) (hx : ∀ y ∈ x, y.it) (h0 : 0 ≤ left) (h1 : left ≤ 1048576) : Fun1 Tryz.prog 67 [.one (.row true 3 (x.map DStored.enc)), .one (.lit (.int .i64 left))] (.one (.lit (.int .i64 (szF (wL DStored.wt x) left)))) := by
  have hw : wL DStored.wt x = x.length + (x.map DStored.wt).sum := rfl
  refine fun1_of_vc tb_ok mix (fn := Tryz.f67) Tryz.func67 rfl (by kernel_rfl) (by kernel_rfl) (by simp [Tryz.f67]) (by rfl) ?_
  (conv => whnf)
  refine ⟨left - (x.length : Nat), by rw [List.length_map]; exact wrap64_id (by omega) (by omega), ?_⟩; (conv => whnf)
  (split <;> rename_i h <;> (try simp only [decide_eq_true_eq, decide_eq_false_iff_not, Bool.not_eq_true', Bool.not_eq_false', Bool.not_eq_true, Bool.not_eq_false, List.length_map] at h) <;> conv => whnf)
  · refine ⟨close_int ?_, trivial⟩; have := szF_or (wL DStored.wt x) left; omega
  refine ⟨LG (fun i : Nat => i ≤ x.length ∧ ((x.length + ((x.take i).map DStored.wt).sum : Nat) : Int) ≤ left) (fun i => x.length - i) (fun i => AS.of [(0, .one (.row true 3 (x.map DStored.enc))), (1, .one (.lit (.int .i64 (left - ((x.length + ((x.take i).map DStored.wt).sum : Nat) : Int))))), (5, .one (.lit (.int .i64 (i : Nat))))] []), lg_init 0 ⟨by omega, by simp; omega⟩ (weak_of (by refine all_cons rfl (all_cons (eq_int rfl (by simp)) (all_cons rfl all_nil))) all_nil rfl rfl), ?_⟩
  rintro σ k ⟨i, ⟨hi, hc⟩, rfl, rfl⟩
  refine ⟨_, Weak.refl _, ?_⟩
  (conv => whnf)
  (split <;> rename_i h <;> (try simp only [decide_eq_true_eq, decide_eq_false_iff_not, Bool.not_eq_true', Bool.not_eq_false', Bool.not_eq_true, Bool.not_eq_false, List.length_map] at h) <;> conv => whnf)
  · have hlt : i < x.length := by simpa using h
    have hs := wsum_take_succ (f := DStored.wt) hlt
    have hle := sum_take_le DStored.wt x (i + 1)
    refine ⟨i, rfl, _, at_map hlt, ?_⟩; (conv => whnf)
    have hy := hx x[i] (List.getElem_mem hlt)
    have hq := szF_or (x[i].wt) (left - ((x.length + ((x.take i).map DStored.wt).sum : Nat) : Int))
    refine ⟨_, _, szStored_c x[i] (left - ((x.length + ((x.take i).map DStored.wt).sum : Nat) : Int)) hy (by omega) (by omega), lendA, ?_⟩; (conv => whnf)
    (split <;> rename_i h2 <;> (try simp only [decide_eq_true_eq, decide_eq_false_iff_not, Bool.not_eq_true', Bool.not_eq_false', Bool.not_eq_true, Bool.not_eq_false, List.length_map] at h2) <;> conv => whnf)
    · refine ⟨close_int ?_, trivial⟩; have := szF_or (wL DStored.wt x) left; omega
    refine ⟨((i + 1 : Nat) : Int), by rw [← wrap64_id] <;> omega, ?_⟩; (conv => whnf)
    exact lg_back (i + 1) ⟨by omega, by omega⟩ (by (try dsimp only); omega) (weak_of (by refine all_cons rfl (all_cons (eq_int rfl (by omega)) (all_cons rfl all_nil))) all_nil rfl rfl)
  · have : i = x.length := by simp at h; omega
    subst this
    rw [List.take_length] at hc
    refine ⟨close_int ?_, trivial⟩; rw [List.take_length]; have := szF_or (wL DStored.wt x) left; omega
theorem allsA {α : Type} {l : List α} {p : α → Prop} (h : ∀ x ∈ l, p x := by repeat (first | refine all_cons (by first | rfl | exact eq_int rfl (by first | rfl | omega | (simp; done) | (simp; omega)) | exact eq_loc rfl (by first | rfl | omega | (simp; done) | (simp; omega)) | exact eq_bool rfl (by simp_all)) ?_ | exact all_nil)) : ∀ x ∈ l, p x := h
theorem toStoredS_c (x : List DStored) (h : wL DStored.wt x ≤ 1048576) : Fun1 Tryz.prog 79 [.one (.row true 3 (x.map DStored.enc))] (.one (.row true 3 (x.map DStored.enc))) := by
  have hw : wL DStored.wt x = x.length + (x.map DStored.wt).sum := rfl
  refine fun1_of_vc tb_ok mix (fn := Tryz.f79) Tryz.func79 rfl (by kernel_rfl) (by kernel_rfl) (by simp [Tryz.f79]) (by show AV.nb (4 + 1) _ = true; exact nb_map (n := 4) (fun y => DStored.enc_nbn 4 y) _) ?_
  (conv => whnf)
  refine ⟨x.length, by simp, Int.le_refl _, by simp; omega, by simp [maxLen]; omega, ?_⟩; (conv => whnf)
  refine ⟨LG (fun i : Nat => i ≤ x.length) (fun i => x.length - i) (fun i => AS.of [(0, .one (.row true 3 (x.map DStored.enc))), (3, .one (.loc 112 0 x.length)), (4, .one (.lit (.int .i64 (i : Nat))))] [(112, .row true 3 ((x.take i).map DStored.enc ++ List.replicate (x.length - i) [.lit (.string .empty), .lit (.string .empty), .lit (.int .i64 0)]))]), lg_init 0 (by omega) (weak_of allsA (by exact all_cons (eq_row rfl (by simp)) all_nil) rfl rfl), ?_⟩
  rintro σ k ⟨i, hi, rfl, rfl⟩
  refine ⟨_, Weak.refl _, ?_⟩
  by_cases hlt : i < x.length
  · have hd : List.replicate (x.length - i) ([.lit (.string .empty), .lit (.string .empty), .lit (.int .i64 0)] : List AV) = [.lit (.string .empty), .lit (.string .empty), .lit (.int .i64 0)] :: List.replicate (x.length - (i + 1)) [.lit (.string .empty), .lit (.string .empty), .lit (.int .i64 0)] := by rw [show x.length - i = (x.length - (i + 1)) + 1 by omega]; rfl
    have hml : ((x.take i).map DStored.enc).length = 0 + i := by simp; omega
    have hts : (x.take (i + 1)).map DStored.enc = (x.take i).map DStored.enc ++ [DStored.enc x[i]] := by rw [List.take_succ_eq_append_getElem hlt, List.map_append]; rfl
    have hwi : DStored.wt x[i] ≤ wL DStored.wt x := by have h1 := wsum_take_succ (f := DStored.wt) hlt; have h2 := sum_take_le DStored.wt x (i + 1); omega
    have hq : (x.take i).map DStored.enc ++ List.replicate (x.length - i) ([.lit (.string .empty), .lit (.string .empty), .lit (.int .i64 0)] : List AV) = (x.take i).map DStored.enc ++ [.lit (.string .empty), .lit (.string .empty), .lit (.int .i64 0)] :: List.replicate (x.length - (i + 1)) [.lit (.string .empty), .lit (.string .empty), .lit (.int .i64 0)] := by rw [hd]
    (conv => whnf)
    split <;> rename_i hb
    case h_2 => simp at hb; omega
    clear hb; (conv => whnf)
    refine ⟨i, rfl, _, at_map hlt, ?_⟩; (conv => whnf)
    refine ⟨_, _, toStored_c x[i] (by omega), lendA, ?_⟩; (conv => whnf)
    refine ⟨i, rfl, hlt, ?_⟩; (conv => whnf)
    refine ⟨_, at_eq hq hml, ?_⟩; (conv => whnf)
    refine ⟨_, set_eq hq hml, ?_⟩; (conv => whnf)
    refine ⟨((i + 1 : Nat) : Int), by rw [← wrap64_id] <;> omega, ?_⟩; (conv => whnf)
    exact lg_back (i + 1) (by omega) (by (try dsimp only); omega) (weak_of allsA (by exact all_cons (eq_row rfl (by rw [hts]; exact (List.append_assoc _ [_] _).symm)) all_nil) rfl rfl)
  · have : i = x.length := by omega
    subst this
    (conv => whnf)
    split <;> rename_i hb
    case h_1 => simp at hb
    clear hb; (conv => whnf)
    exact ⟨close_row rfl rfl (by simp) (by simp), trivial⟩
theorem eqStoredS_c (x : List DStored) (hl : x.length ≤ 4294967296) (hx : ∀ y ∈ x, y.ok) : Fun1 Tryz.prog 90 [.one (.row true 3 (x.map DStored.enc)), .one (.row true 3 (x.map DStored.enc))] (.one (.lit (.bool true))) := by
  refine fun1_of_vc tb_ok mix (fn := Tryz.f90) Tryz.func90 rfl (by kernel_rfl) (by kernel_rfl) (by simp [Tryz.f90]) (by rfl) ?_
  (conv => whnf)
  (first | (split <;> rename_i h <;> first | (exfalso; first | (simp at h; done) | (simp at h; omega) | (simp_all; done) | (simp_all; omega)) | (conv => whnf)) | skip)
  refine ⟨LG (fun i : Nat => i ≤ x.length) (fun i => x.length - i) (fun i => AS.of [(0, .one (.row true 3 (x.map DStored.enc))), (1, .one (.row true 3 (x.map DStored.enc))), (5, .one (.lit (.int .i64 (i : Nat))))] []), lg_init 0 (by omega) (weak_of allsA allsA rfl rfl), ?_⟩
  rintro σ k ⟨i, hi, rfl, rfl⟩
  refine ⟨_, Weak.refl _, ?_⟩
  (conv => whnf)
  (split <;> rename_i h <;> (try simp only [decide_eq_true_eq, decide_eq_false_iff_not, Bool.not_eq_true', Bool.not_eq_false', Bool.not_eq_true, Bool.not_eq_false, List.length_map] at h) <;> conv => whnf)
  · have hlt : i < x.length := by simpa using h
    refine ⟨i, rfl, _, at_map hlt, ?_⟩; (conv => whnf)
    refine ⟨i, rfl, _, at_map hlt, ?_⟩; (conv => whnf)
    have hy := hx x[i] (List.getElem_mem hlt)
    refine ⟨_, _, eqStored_c x[i] hy, lendA, ?_⟩; (conv => whnf)
    refine ⟨((i + 1 : Nat) : Int), by rw [← wrap64_id] <;> omega, ?_⟩; (conv => whnf)
    exact lg_back (i + 1) (by omega) (by (try dsimp only); omega) (weak_of allsA allsA rfl rfl)
  · exact (by repeat' (first | exact trivial | exact close_int rfl | exact close_str rfl | exact close_bool rfl | exact close_int (by omega) | exact close_row rfl rfl (by first | rfl | simp) (by first | rfl | simp) | exact close_nil (by first | rfl | simp) | exact rfl | apply And.intro | apply closeTs_cons rfl))
theorem szDrive_c (x : DDrive) (left : Int) (hx : x.it) (h0 : 0 ≤ left) (h1 : left ≤ 1048576) : Fun1 Tryz.prog 37 [.agg x.enc, .one (.lit (.int .i64 left))] (.one (.lit (.int .i64 (szF x.wt left)))) := by
  unfold DDrive.it at hx
  obtain ⟨hx0, hx1⟩ := hx
  have hw : x.wt = wL DStored.wt x.files := rfl
  refine fun1_of_vc tb_ok mix (fn := Tryz.f37) Tryz.func37 rfl (by kernel_rfl) (by kernel_rfl) (by simp [Tryz.f37]) (by rfl) ?_
  (conv => whnf)
  have hs0 := szF_or (wL DStored.wt x.files) (left)
  refine ⟨_, _, szStoredS_c x.files (left) hx0.1 hx0.2 (by omega) (by omega), lendA, ?_⟩; (conv => whnf)
  (split <;> rename_i h <;> (try simp only [decide_eq_true_eq, decide_eq_false_iff_not, Bool.not_eq_true', Bool.not_eq_false', Bool.not_eq_true, Bool.not_eq_false, List.length_map] at h) <;> conv => whnf)
  · refine ⟨close_int ?_, trivial⟩; have := szF_or x.wt left; omega
  refine ⟨close_int ?_, trivial⟩; have := szF_or x.wt left; omega
theorem toDrive_c (x : DDrive) (h : x.wt ≤ 1048576) : Fun1 Tryz.prog 45 [.agg x.enc] (.agg x.enc) := by
  have hw : x.wt = wL DStored.wt x.files := rfl
  refine fun1_of_vc tb_ok mix (fn := Tryz.f45) Tryz.func45 rfl (by kernel_rfl) (by kernel_rfl) (by simp [Tryz.f45]) (by exact DDrive.enc_nb _) ?_
  (conv => whnf)
  refine ⟨_, _, toStoredS_c x.files (by omega), lendA, ?_⟩; (conv => whnf)
  exact (by repeat' (first | exact trivial | exact close_int rfl | exact close_str rfl | exact close_bool rfl | exact close_int (by omega) | exact close_row rfl rfl (by first | rfl | simp) (by first | rfl | simp) | exact close_nil (by first | rfl | simp) | exact rfl | apply And.intro | apply closeTs_cons rfl))
theorem eqDrive_c (x : DDrive) (hx : x.ok) : Fun1 Tryz.prog 58 [.agg x.enc, .agg x.enc] (.one (.lit (.bool true))) := by
  unfold DDrive.ok at hx
  obtain ⟨hx0, hx1⟩ := hx
  refine fun1_of_vc tb_ok mix (fn := Tryz.f58) Tryz.func58 rfl (by kernel_rfl) (by kernel_rfl) (by simp [Tryz.f58]) (by rfl) ?_
  (conv => whnf)
  refine ⟨_, _, eqStoredS_c x.files hx0.1 hx0.2, lendA, ?_⟩; (conv => whnf)
  (first | (split <;> rename_i h <;> first | (exfalso; first | (simp at h; done) | (simp at h; omega) | (simp_all; done) | (simp_all; omega)) | (conv => whnf)) | skip)
  exact (by repeat' (first | exact trivial | exact close_int rfl | exact close_str rfl | exact close_bool rfl | exact close_int (by omega) | exact close_row rfl rfl (by first | rfl | simp) (by first | rfl | simp) | exact close_nil (by first | rfl | simp) | exact rfl | apply And.intro | apply closeTs_cons rfl))
theorem szDriveS_c (x : List DDrive) (left : Int) (hl : x.length ≤ 9223372036854775807) (hx : ∀ y ∈ x, y.it) (h0 : 0 ≤ left) (h1 : left ≤ 1048576) : Fun1 Tryz.prog 16 [.one (.row true 2 (x.map DDrive.enc)), .one (.lit (.int .i64 left))] (.one (.lit (.int .i64 (szF (wL DDrive.wt x) left)))) := by
  have hw : wL DDrive.wt x = x.length + (x.map DDrive.wt).sum := rfl
  refine fun1_of_vc tb_ok mix (fn := Tryz.f16) Tryz.func16 rfl (by kernel_rfl) (by kernel_rfl) (by simp [Tryz.f16]) (by rfl) ?_
  (conv => whnf)
  refine ⟨left - (x.length : Nat), by rw [List.length_map]; exact wrap64_id (by omega) (by omega), ?_⟩; (conv => whnf)
  (split <;> rename_i h <;> (try simp only [decide_eq_true_eq, decide_eq_false_iff_not, Bool.not_eq_true', Bool.not_eq_false', Bool.not_eq_true, Bool.not_eq_false, List.length_map] at h) <;> conv => whnf)
  · refine ⟨close_int ?_, trivial⟩; have := szF_or (wL DDrive.wt x) left; omega
  refine ⟨LG (fun i : Nat => i ≤ x.length ∧ ((x.length + ((x.take i).map DDrive.wt).sum : Nat) : Int) ≤ left) (fun i => x.length - i) (fun i => AS.of [(0, .one (.row true 2 (x.map DDrive.enc))), (1, .one (.lit (.int .i64 (left - ((x.length + ((x.take i).map DDrive.wt).sum : Nat) : Int))))), (5, .one (.lit (.int .i64 (i : Nat))))] []), lg_init 0 ⟨by omega, by simp; omega⟩ (weak_of (by refine all_cons rfl (all_cons (eq_int rfl (by simp)) (all_cons rfl all_nil))) all_nil rfl rfl), ?_⟩
  rintro σ k ⟨i, ⟨hi, hc⟩, rfl, rfl⟩
  refine ⟨_, Weak.refl _, ?_⟩
  (conv => whnf)
  (split <;> rename_i h <;> (try simp only [decide_eq_true_eq, decide_eq_false_iff_not, Bool.not_eq_true', Bool.not_eq_false', Bool.not_eq_true, Bool.not_eq_false, List.length_map] at h) <;> conv => whnf)
  · have hlt : i < x.length := by simpa using h
    have hs := wsum_take_succ (f := DDrive.wt) hlt
    have hle := sum_take_le DDrive.wt x (i + 1)
    refine ⟨i, rfl, _, at_map hlt, ?_⟩; (conv => whnf)
    have hy := hx x[i] (List.getElem_mem hlt)
    have hq := szF_or (x[i].wt) (left - ((x.length + ((x.take i).map DDrive.wt).sum : Nat) : Int))
    refine ⟨_, _, szDrive_c x[i] (left - ((x.length + ((x.take i).map DDrive.wt).sum : Nat) : Int)) hy (by omega) (by omega), lendA, ?_⟩; (conv => whnf)
    (split <;> rename_i h2 <;> (try simp only [decide_eq_true_eq, decide_eq_false_iff_not, Bool.not_eq_true', Bool.not_eq_false', Bool.not_eq_true, Bool.not_eq_false, List.length_map] at h2) <;> conv => whnf)
    · refine ⟨close_int ?_, trivial⟩; have := szF_or (wL DDrive.wt x) left; omega
    refine ⟨((i + 1 : Nat) : Int), by rw [← wrap64_id] <;> omega, ?_⟩; (conv => whnf)
    exact lg_back (i + 1) ⟨by omega, by omega⟩ (by (try dsimp only); omega) (weak_of (by refine all_cons rfl (all_cons (eq_int rfl (by omega)) (all_cons rfl all_nil))) all_nil rfl rfl)
  · have : i = x.length := by simp at h; omega
    subst this
    rw [List.take_length] at hc
    refine ⟨close_int ?_, trivial⟩; rw [List.take_length]; have := szF_or (wL DDrive.wt x) left; omega
theorem toDriveS_c (x : List DDrive) (h : wL DDrive.wt x ≤ 1048576) : Fun1 Tryz.prog 21 [.one (.row true 2 (x.map DDrive.enc))] (.one (.row true 2 (x.map DDrive.enc))) := by
  have hw : wL DDrive.wt x = x.length + (x.map DDrive.wt).sum := rfl
  refine fun1_of_vc tb_ok mix (fn := Tryz.f21) Tryz.func21 rfl (by kernel_rfl) (by kernel_rfl) (by simp [Tryz.f21]) (by show AV.nb (4 + 1) _ = true; exact nb_map (n := 4) (fun y => DDrive.enc_nbn 3 y) _) ?_
  (conv => whnf)
  refine ⟨x.length, by simp, Int.le_refl _, by simp; omega, by simp [maxLen]; omega, ?_⟩; (conv => whnf)
  refine ⟨LG (fun i : Nat => i ≤ x.length) (fun i => x.length - i) (fun i => AS.of [(0, .one (.row true 2 (x.map DDrive.enc))), (3, .one (.loc 112 0 x.length)), (4, .one (.lit (.int .i64 (i : Nat))))] [(112, .row true 2 ((x.take i).map DDrive.enc ++ List.replicate (x.length - i) [.lit (.slice none 0 0), .lit (.int .i64 0)]))]), lg_init 0 (by omega) (weak_of allsA (by exact all_cons (eq_row rfl (by simp)) all_nil) rfl rfl), ?_⟩
  rintro σ k ⟨i, hi, rfl, rfl⟩
  refine ⟨_, Weak.refl _, ?_⟩
  by_cases hlt : i < x.length
  · have hd : List.replicate (x.length - i) ([.lit (.slice none 0 0), .lit (.int .i64 0)] : List AV) = [.lit (.slice none 0 0), .lit (.int .i64 0)] :: List.replicate (x.length - (i + 1)) [.lit (.slice none 0 0), .lit (.int .i64 0)] := by rw [show x.length - i = (x.length - (i + 1)) + 1 by omega]; rfl
    have hml : ((x.take i).map DDrive.enc).length = 0 + i := by simp; omega
    have hts : (x.take (i + 1)).map DDrive.enc = (x.take i).map DDrive.enc ++ [DDrive.enc x[i]] := by rw [List.take_succ_eq_append_getElem hlt, List.map_append]; rfl
    have hwi : DDrive.wt x[i] ≤ wL DDrive.wt x := by have h1 := wsum_take_succ (f := DDrive.wt) hlt; have h2 := sum_take_le DDrive.wt x (i + 1); omega
    have hq : (x.take i).map DDrive.enc ++ List.replicate (x.length - i) ([.lit (.slice none 0 0), .lit (.int .i64 0)] : List AV) = (x.take i).map DDrive.enc ++ [.lit (.slice none 0 0), .lit (.int .i64 0)] :: List.replicate (x.length - (i + 1)) [.lit (.slice none 0 0), .lit (.int .i64 0)] := by rw [hd]
    (conv => whnf)
    split <;> rename_i hb
    case h_2 => simp at hb; omega
    clear hb; (conv => whnf)
    refine ⟨i, rfl, _, at_map hlt, ?_⟩; (conv => whnf)
    refine ⟨_, _, toDrive_c x[i] (by omega), lendA, ?_⟩; (conv => whnf)
    refine ⟨i, rfl, hlt, ?_⟩; (conv => whnf)
    refine ⟨_, at_eq hq hml, ?_⟩; (conv => whnf)
    refine ⟨_, set_eq hq hml, ?_⟩; (conv => whnf)
    refine ⟨((i + 1 : Nat) : Int), by rw [← wrap64_id] <;> omega, ?_⟩; (conv => whnf)
    exact lg_back (i + 1) (by omega) (by (try dsimp only); omega) (weak_absorb (r := 112) (s := 320) ((x.take i).map DDrive.enc) (List.replicate (x.length - (i + 1)) [.lit (.slice none 0 0), .lit (.int .i64 0)]) [] [.lit (.int .i64 x[i].room)] (es2 := x[i].files.map DStored.enc) (by decide) rfl rfl (cellRow_map (fun y => rfl) _) (by simp [cellRow, AV.isCell]) rfl rfl (weak_of allsA (by exact all_cons (eq_row rfl (by rw [hts]; exact (List.append_assoc _ [_] _).symm)) all_nil) rfl rfl))
  · have : i = x.length := by omega
    subst this
    (conv => whnf)
    split <;> rename_i hb
    case h_1 => simp at hb
    clear hb; (conv => whnf)
    exact ⟨close_row rfl rfl (by simp) (by simp), trivial⟩
theorem eqDriveS_c (x : List DDrive) (hl : x.length ≤ 4294967296) (hx : ∀ y ∈ x, y.ok) : Fun1 Tryz.prog 28 [.one (.row true 2 (x.map DDrive.enc)), .one (.row true 2 (x.map DDrive.enc))] (.one (.lit (.bool true))) := by
  refine fun1_of_vc tb_ok mix (fn := Tryz.f28) Tryz.func28 rfl (by kernel_rfl) (by kernel_rfl) (by simp [Tryz.f28]) (by rfl) ?_
  (conv => whnf)
  (first | (split <;> rename_i h <;> first | (exfalso; first | (simp at h; done) | (simp at h; omega) | (simp_all; done) | (simp_all; omega)) | (conv => whnf)) | skip)
  refine ⟨LG (fun i : Nat => i ≤ x.length) (fun i => x.length - i) (fun i => AS.of [(0, .one (.row true 2 (x.map DDrive.enc))), (1, .one (.row true 2 (x.map DDrive.enc))), (5, .one (.lit (.int .i64 (i : Nat))))] []), lg_init 0 (by omega) (weak_of allsA allsA rfl rfl), ?_⟩
  rintro σ k ⟨i, hi, rfl, rfl⟩
  refine ⟨_, Weak.refl _, ?_⟩
  (conv => whnf)
  (split <;> rename_i h <;> (try simp only [decide_eq_true_eq, decide_eq_false_iff_not, Bool.not_eq_true', Bool.not_eq_false', Bool.not_eq_true, Bool.not_eq_false, List.length_map] at h) <;> conv => whnf)
  · have hlt : i < x.length := by simpa using h
    refine ⟨i, rfl, _, at_map hlt, ?_⟩; (conv => whnf)
    refine ⟨i, rfl, _, at_map hlt, ?_⟩; (conv => whnf)
    have hy := hx x[i] (List.getElem_mem hlt)
    refine ⟨_, _, eqDrive_c x[i] hy, lendA, ?_⟩; (conv => whnf)
    refine ⟨((i + 1 : Nat) : Int), by rw [← wrap64_id] <;> omega, ?_⟩; (conv => whnf)
    exact lg_back (i + 1) (by omega) (by (try dsimp only); omega) (weak_of allsA allsA rfl rfl)
  · exact (by repeat' (first | exact trivial | exact close_int rfl | exact close_str rfl | exact close_bool rfl | exact close_int (by omega) | exact close_row rfl rfl (by first | rfl | simp) (by first | rfl | simp) | exact close_nil (by first | rfl | simp) | exact rfl | apply And.intro | apply closeTs_cons rfl))
theorem szArray_c (x : DArray) (left : Int) (hx : x.it) (h0 : 0 ≤ left) (h1 : left ≤ 1048576) : Fun1 Tryz.prog 5 [.agg x.enc, .one (.lit (.int .i64 left))] (.one (.lit (.int .i64 (szF x.wt left)))) := by
  unfold DArray.it at hx
  obtain ⟨hx0, hx1, hx2⟩ := hx
  have hw : x.wt = wL DDrive.wt x.drives := rfl
  refine fun1_of_vc tb_ok mix (fn := Tryz.f5) Tryz.func5 rfl (by kernel_rfl) (by kernel_rfl) (by simp [Tryz.f5]) (by rfl) ?_
  (conv => whnf)
  have hs2 := szF_or (wL DDrive.wt x.drives) (left)
  refine ⟨_, _, szDriveS_c x.drives (left) hx2.1 hx2.2 (by omega) (by omega), lendA, ?_⟩; (conv => whnf)
  (split <;> rename_i h <;> (try simp only [decide_eq_true_eq, decide_eq_false_iff_not, Bool.not_eq_true', Bool.not_eq_false', Bool.not_eq_true, Bool.not_eq_false, List.length_map] at h) <;> conv => whnf)
  · refine ⟨close_int ?_, trivial⟩; have := szF_or x.wt left; omega
  refine ⟨close_int ?_, trivial⟩; have := szF_or x.wt left; omega
theorem toArray_c (x : DArray) (h : x.wt ≤ 1048576) : Fun1 Tryz.prog 7 [.agg x.enc] (.agg x.enc) := by
  have hw : x.wt = wL DDrive.wt x.drives := rfl
  refine fun1_of_vc tb_ok mix (fn := Tryz.f7) Tryz.func7 rfl (by kernel_rfl) (by kernel_rfl) (by simp [Tryz.f7]) (by exact DArray.enc_nb _) ?_
  (conv => whnf)
  refine ⟨_, _, toDriveS_c x.drives (by omega), lendA, ?_⟩; (conv => whnf)
  exact (by repeat' (first | exact trivial | exact close_int rfl | exact close_str rfl | exact close_bool rfl | exact close_int (by omega) | exact close_row rfl rfl (by first | rfl | simp) (by first | rfl | simp) | exact close_nil (by first | rfl | simp) | exact rfl | apply And.intro | apply closeTs_cons rfl))
theorem eqArray_c (x : DArray) (hx : x.ok) : Fun1 Tryz.prog 10 [.agg x.enc, .agg x.enc] (.one (.lit (.bool true))) := by
  unfold DArray.ok at hx
  obtain ⟨hx0, hx1, hx2⟩ := hx
  refine fun1_of_vc tb_ok mix (fn := Tryz.f10) Tryz.func10 rfl (by kernel_rfl) (by kernel_rfl) (by simp [Tryz.f10]) (by rfl) ?_
  (conv => whnf)
  (first | (split <;> rename_i h <;> first | (exfalso; first | (simp at h; done) | (simp at h; omega) | (simp_all; done) | (simp_all; omega)) | (conv => whnf)) | skip)
  (first | (split <;> rename_i h <;> first | (exfalso; first | (simp at h; done) | (simp at h; omega) | (simp_all; done) | (simp_all; omega)) | (conv => whnf)) | skip)
  refine ⟨_, _, eqDriveS_c x.drives hx2.1 hx2.2, lendA, ?_⟩; (conv => whnf)
  exact (by repeat' (first | exact trivial | exact close_int rfl | exact close_str rfl | exact close_bool rfl | exact close_int (by omega) | exact close_row rfl rfl (by first | rfl | simp) (by first | rfl | simp) | exact close_nil (by first | rfl | simp) | exact rfl | apply And.intro | apply closeTs_cons rfl))
end Go.Proofs.YthdejoipdgahiaaGreatDoor
namespace Go.Proofs.YthdejoipdgahiaaGreatDoor
open Go.RowKit
set_option linter.unusedSimpArgs false
set_option linter.unusedVariables false
set_option maxRecDepth 100000
theorem lawSurvives_c (x0 : DArray) (hi0 : x0.it)
    (H : x0.wt ≤ 1048576 → ∃ r : Bool, (Fun1 Tryz.prog 14 [.agg x0.enc] (.one (.lit (.bool r)))) ∧ (Fun1 Tryz.prog 15 [.agg x0.enc] (.one (.lit (.bool r))))) :
    Fun1 Tryz.prog 4 [.agg x0.enc] (.one (.lit (.bool true))) := by
  refine law_of_vc tb_ok mix (fn := Tryz.f4) Tryz.func4 rfl (by kernel_rfl) (by kernel_rfl) (by simp [Tryz.f4]) rfl rfl fun u => ?_
  (conv => whnf)
  have hs1 := szF_or (x0.wt) (1048576)
  refine ⟨_, _, szArray_c x0 (1048576) hi0 (by omega) (by omega), (lends_cons (lend_agg (all2_cons (la_int (by first | rfl | omega)) (all2_cons (la_int (by first | rfl | omega)) (all2_cons (la_par 2 rfl) (all2_nil))))) (lends_cons (lend_one (la_int (by first | rfl | omega))) (lends_nil))), ?_⟩; (conv => whnf)
  (split <;> rename_i h <;> (try simp only [decide_eq_true_eq, decide_eq_false_iff_not, Bool.not_eq_true', Bool.not_eq_false', Bool.not_eq_true, Bool.not_eq_false, List.length_map] at h) <;> conv => whnf)
  · exact ⟨close_bool rfl, trivial⟩
  have hw0 : x0.wt ≤ 1048576 := by omega
  obtain ⟨r, hspec, himpl⟩ := H hw0
  have hok0 := DArray.ok_of x0 hi0 (by omega)
  have hyp0 := DArray.hyp_of x0 hok0
  have hcn0 := DArray.cnV_le x0
  refine ⟨_, _, toArray_c x0 (by omega), (lends_cons (lend_agg (all2_cons (la_int (by first | rfl | omega)) (all2_cons (la_int (by first | rfl | omega)) (all2_cons (la_par 2 rfl) (all2_nil))))) (lends_nil)), ?_⟩; (conv => whnf)
  refine ⟨_, _, hspec, (lends_cons (lend_agg (all2_cons (la_int (by first | rfl | omega)) (all2_cons (la_int (by first | rfl | omega)) (all2_cons (la_loc rfl rfl rfl rfl rfl) (all2_nil))))) (lends_nil)), ?_⟩; (conv => whnf)
  refine ⟨_, _, toArray_c x0 (by omega), (lends_cons (lend_agg (all2_cons (la_int (by first | rfl | omega)) (all2_cons (la_int (by first | rfl | omega)) (all2_cons (la_par 2 rfl) (all2_nil))))) (lends_nil)), ?_⟩; (conv => whnf)
  refine ⟨_, _, himpl, (lends_cons (lend_agg (all2_cons (la_int (by first | rfl | omega)) (all2_cons (la_int (by first | rfl | omega)) (all2_cons (la_loc rfl rfl rfl rfl rfl) (all2_nil))))) (lends_nil)), ?_⟩; (conv => whnf)
  (first | (split <;> rename_i h <;> first | (exfalso; first | (simp at h; done) | (simp at h; omega) | (simp_all; done) | (simp_all; omega)) | (conv => whnf)) | skip)
  refine ⟨_, _, toArray_c x0 (by omega), (lends_cons (lend_agg (all2_cons (la_int (by first | rfl | omega)) (all2_cons (la_int (by first | rfl | omega)) (all2_cons (la_par 2 rfl) (all2_nil))))) (lends_nil)), ?_⟩; (conv => whnf)
  refine ⟨_, _, eqArray_c x0 hok0, (lends_cons (lend_agg (all2_cons (la_int (by first | rfl | omega)) (all2_cons (la_int (by first | rfl | omega)) (all2_cons (la_loc rfl rfl rfl rfl rfl) (all2_nil))))) (lends_cons (lend_agg (all2_cons (la_int (by first | rfl | omega)) (all2_cons (la_int (by first | rfl | omega)) (all2_cons (la_loc rfl rfl rfl rfl rfl) (all2_nil))))) (lends_nil))), ?_⟩; (conv => whnf)
  exact ⟨close_bool rfl, trivial⟩
end Go.Proofs.YthdejoipdgahiaaGreatDoor
namespace Go.Proofs.YthdejoipdgahiaaGreatDoor
open Go.RowKit
set_option linter.unusedSimpArgs false
set_option linter.unusedVariables false
def bLt (a b : ByteArray) : Bool := sless a b
def nmAt (s : ByteArray) (i : Nat) : Bool :=
  let c := (s.data.toList.getD i 0).toNat
  (decide (97 ≤ c) && decide (c ≤ 122)) || (decide (i ≠ 0) && ((decide (48 ≤ c) && decide (c ≤ 57)) || decide (c = 45)))
theorem nmAt_t {s : ByteArray} {i : Nat} (h : (97 ≤ (s.data.toList.getD i 0).toNat ∧ (s.data.toList.getD i 0).toNat ≤ 122) ∨ (i ≠ 0 ∧ ((48 ≤ (s.data.toList.getD i 0).toNat ∧ (s.data.toList.getD i 0).toNat ≤ 57) ∨ (s.data.toList.getD i 0).toNat = 45))) : nmAt s i = true := by
  simp only [nmAt, Bool.or_eq_true, Bool.and_eq_true, decide_eq_true_eq]; exact h
theorem nmAt_f {s : ByteArray} {i : Nat} (h : ¬ ((97 ≤ (s.data.toList.getD i 0).toNat ∧ (s.data.toList.getD i 0).toNat ≤ 122) ∨ (i ≠ 0 ∧ ((48 ≤ (s.data.toList.getD i 0).toNat ∧ (s.data.toList.getD i 0).toNat ≤ 57) ∨ (s.data.toList.getD i 0).toNat = 45)))) : nmAt s i = false := by
  rw [Bool.eq_false_iff]; intro e; apply h
  simpa only [nmAt, Bool.or_eq_true, Bool.and_eq_true, decide_eq_true_eq] using e
def nameOk (s : ByteArray) (most : Int) : Bool := (List.range s.size).all (nmAt s) && (decide ((1 : Int) ≤ s.size) && decide ((s.size : Int) ≤ most))
theorem range_all_true {n : Nat} {p : Nat → Bool} (h : ∀ j, j < n → p j = true) : (List.range n).all p = true := by
  rw [List.all_eq_true]; intro j hj; exact h j (List.mem_range.1 hj)
theorem range_all_false {n j : Nat} {p : Nat → Bool} (hj : j < n) (h : p j = false) : (List.range n).all p = false := by
  rw [List.all_eq_false]; exact ⟨j, List.mem_range.2 hj, by simp [h]⟩
def usedN (fs : List DStored) : Nat := (fs.map fun f => f.text.size).sum
theorem usedN_take_succ {fs : List DStored} {k : Nat} (hk : k < fs.length) : usedN (fs.take (k + 1)) = usedN (fs.take k) + fs[k].text.size := wsum_take_succ (f := fun f : DStored => f.text.size) hk
theorem usedN_take_le (fs : List DStored) (k : Nat) : usedN (fs.take k) ≤ usedN fs := sum_take_le _ fs k
theorem usedN_le (fs : List DStored) : usedN fs ≤ wL DStored.wt fs := by
  unfold wL usedN
  induction fs with
  | nil => simp
  | cons f fs ih =>
    have : f.wt = f.name.size + f.text.size := rfl
    simp only [List.map_cons, List.sum_cons, List.length_cons] at ih ⊢
    omega
def fOk (fs : List DStored) (i : Nat) : Bool :=
  match fs[i]? with
  | none => false
  | some f => nameOk f.name 80 && (decide (i = 0) || bLt ((fs[i - 1]?).getD f).name f.name) && decide (f.text.size ≤ 20000) && decide (0 ≤ f.synced) && decide (f.synced ≤ f.text.size)
def filesOk (fs : List DStored) : Bool := (List.range fs.length).all (fOk fs)
def driveOk (d : DDrive) : Bool := decide (d.files.length ≤ 60) && decide (0 ≤ d.room) && decide (d.room ≤ 100000) && filesOk d.files && decide ((usedN d.files : Int) ≤ d.room)
theorem fOk_eq {fs : List DStored} {i : Nat} (hi : i < fs.length) : fOk fs i = (nameOk fs[i].name 80 && (decide (i = 0) || bLt (fs[i - 1]'(by omega)).name fs[i].name) && decide (fs[i].text.size ≤ 20000) && decide (0 ≤ fs[i].synced) && decide (fs[i].synced ≤ fs[i].text.size)) := by
  unfold fOk
  rw [List.getElem?_eq_getElem hi, List.getElem?_eq_getElem (show i - 1 < fs.length by omega)]; rfl
theorem bytesLess_lt : ∀ (x y : List UInt8), Op.bytesLess x y = decide (x < y)
  | [], [] => by simp [Op.bytesLess]
  | _ :: _, [] => by simp [Op.bytesLess]
  | [], _ :: _ => by simp [Op.bytesLess]
  | a :: x, b :: y => by
    rw [Op.bytesLess, bytesLess_lt x y]
    simp only [List.cons_lt_cons_iff]
    by_cases h1 : a < b <;> by_cases h2 : a = b <;> by_cases h3 : x < y <;> simp [h1, h2, h3]
theorem u8_trans {a b c : UInt8} (h : a < b) (k : b < c) : a < c := by rw [UInt8.lt_iff_toNat_lt] at *; omega
theorem u8_irrefl (a : UInt8) : ¬ a < a := by rw [UInt8.lt_iff_toNat_lt]; omega
theorem u8_tri (a b : UInt8) : a < b ∨ a = b ∨ b < a := by
  rcases Nat.lt_trichotomy a.toNat b.toNat with h | h | h
  · exact .inl (UInt8.lt_iff_toNat_lt.2 h)
  · exact .inr (.inl (UInt8.toNat_inj.1 h))
  · exact .inr (.inr (UInt8.lt_iff_toNat_lt.2 h))
theorem bytes_trans : ∀ {x y z : List UInt8}, x < y → y < z → x < z
  | _, [], _, h, _ => by simp at h
  | [], _ :: _, [], _, k => by simp at k
  | [], _ :: _, _ :: _, _, _ => by simp
  | _ :: _, _ :: _, [], _, k => by simp at k
  | a :: x, b :: y, c :: z, h, k => by
    simp only [List.cons_lt_cons_iff] at *
    rcases h with h | ⟨rfl, h⟩
    · rcases k with k | ⟨rfl, k⟩
      · exact .inl (u8_trans h k)
      · exact .inl h
    · rcases k with k | ⟨rfl, k⟩
      · exact .inl k
      · exact .inr ⟨rfl, bytes_trans h k⟩
theorem bytes_irrefl : ∀ (x : List UInt8), ¬ x < x
  | [] => by simp
  | a :: x => by
    simp only [List.cons_lt_cons_iff]
    intro h
    rcases h with h | ⟨_, h⟩
    · exact u8_irrefl a h
    · exact bytes_irrefl x h
theorem cmp_neg : ∀ (x y : List UInt8), Lib.compareBytes x y < 0 ↔ x < y
  | [], [] => by simp [Lib.compareBytes]
  | _ :: _, [] => by simp [Lib.compareBytes]
  | [], _ :: _ => by simp [Lib.compareBytes]
  | a :: x, b :: y => by
    simp only [Lib.compareBytes, List.cons_lt_cons_iff]
    by_cases h1 : a < b
    · simp [h1]
    · by_cases h2 : b < a
      · have : a ≠ b := fun e => u8_irrefl a (by rw [e] at h2 ⊢; exact h2)
        simp [h1, h2, this]
      · have : a = b := by
          rcases u8_tri a b with h | h | h
          · exact absurd h h1
          · exact h
          · exact absurd h h2
        simp [h1, h2, this, cmp_neg x y, u8_irrefl]
theorem cmp_zero : ∀ (x y : List UInt8), Lib.compareBytes x y = 0 ↔ x = y
  | [], [] => by simp [Lib.compareBytes]
  | _ :: _, [] => by simp [Lib.compareBytes]
  | [], _ :: _ => by simp [Lib.compareBytes]
  | a :: x, b :: y => by
    simp only [Lib.compareBytes]
    by_cases h1 : a < b
    · have : a ≠ b := fun e => u8_irrefl b (by rw [e] at h1; exact h1)
      simp [h1, this]
    · by_cases h2 : b < a
      · have : a ≠ b := fun e => u8_irrefl b (by rw [e] at h2; exact h2)
        simp [h1, h2, this]
      · have : a = b := by
          rcases u8_tri a b with h | h | h
          · exact absurd h h1
          · exact h
          · exact absurd h h2
        simp [h1, h2, this, cmp_zero x y, u8_irrefl]
theorem bLt_iff (a b : ByteArray) : bLt a b = true ↔ a.data.toList < b.data.toList := by
  unfold bLt sless
  rw [bytesLess_lt, Lib.toList_data, Lib.toList_data]; simp
theorem bLt_trans {a b c : ByteArray} (h : bLt a b = true) (k : bLt b c = true) : bLt a c = true := (bLt_iff a c).2 (bytes_trans ((bLt_iff a b).1 h) ((bLt_iff b c).1 k))
theorem bLt_irrefl (a : ByteArray) : bLt a a = false := by
  rw [Bool.eq_false_iff]; exact fun h => bytes_irrefl _ ((bLt_iff a a).1 h)
theorem bytes_eq {a b : ByteArray} (h : a.data.toList = b.data.toList) : a = b := by
  cases a; cases b; simp at h; simpa using h
def cmpB (a b : ByteArray) : Int := Lib.compareBytes a.data.toList b.data.toList
theorem cmpB_neg (a b : ByteArray) : cmpB a b < 0 ↔ bLt a b = true := (cmp_neg _ _).trans (bLt_iff a b).symm
theorem cmpB_zero (a b : ByteArray) : cmpB a b = 0 ↔ a = b := (cmp_zero _ _).trans ⟨bytes_eq, fun h => by rw [h]⟩
theorem sorted_of {d : DDrive} (h : driveOk d = true) : ∀ (j i : Nat) (hi : i < j) (hj : j < d.files.length), bLt (d.files[i]'(by omega)).name d.files[j].name = true := by
  have step : ∀ j (hj : j + 1 < d.files.length), bLt (d.files[j]'(by omega)).name d.files[j + 1].name = true := fun j hj => by
    unfold driveOk at h
    simp only [Bool.and_eq_true] at h
    have h1 := List.all_eq_true.1 h.1.2 (j + 1) (List.mem_range.2 hj)
    rw [fOk_eq hj] at h1
    simp only [Bool.and_eq_true, Bool.or_eq_true, decide_eq_true_eq] at h1
    rcases h1.1.1.1.2 with h2 | h2
    · omega
    · exact h2
  intro j
  induction j with
  | zero => intro i hi; omega
  | succ j ih =>
    intro i hi hj
    by_cases e : i = j
    · subst e; exact step i hj
    · exact bLt_trans (ih i (by omega) (by omega)) (step j hj)
def findP (fs : List DStored) (name : ByteArray) : Nat := fs.countP fun f => bLt f.name name
def hasN (fs : List DStored) (name : ByteArray) : Bool := fs.any fun f => decide (f.name = name)
theorem countP_cut {α : Type} {p : α → Bool} : ∀ (l : List α) (i : Nat), i ≤ l.length → (∀ t (h : t < l.length), t < i → p l[t] = true) → (∀ t (h : t < l.length), i ≤ t → p l[t] = false) → l.countP p = i
  | [], i, hi, _, _ => by simp at hi; simp [hi]
  | a :: r, 0, _, _, h2 => by
    rw [List.countP_eq_zero]
    intro x hx
    obtain ⟨t, ht, rfl⟩ := List.getElem_of_mem hx
    simp [h2 t ht (Nat.zero_le _)]
  | a :: r, i + 1, hi, h1, h2 => by
    have ha : p a = true := h1 0 (by simp) (Nat.succ_pos _)
    rw [List.countP_cons_of_pos ha, countP_cut r i (by simpa using hi) (fun t h ht => h1 (t + 1) (by simpa using h) (by omega)) (fun t h ht => h2 (t + 1) (by simpa using h) (by omega))]
theorem findP_cut {fs : List DStored} {name : ByteArray} {k : Nat} (hk : k ≤ fs.length) (h1 : ∀ t (h : t < fs.length), t < k → cmpB fs[t].name name < 0) (h2 : ∀ t (h : t < fs.length), k ≤ t → 0 ≤ cmpB fs[t].name name) : findP fs name = k :=
  countP_cut fs k hk (fun t h ht => (cmpB_neg _ _).1 (h1 t h ht)) (fun t h ht => by rw [Bool.eq_false_iff]; exact fun e => by have := h2 t h ht; have := (cmpB_neg _ _).2 e; omega)
theorem hasN_cut {d : DDrive} (hd : driveOk d = true) {name : ByteArray} {k : Nat} (hk : k < d.files.length) (h1 : ∀ t (h : t < d.files.length), t < k → cmpB d.files[t].name name < 0) (h2 : ∀ t (h : t < d.files.length), k ≤ t → 0 ≤ cmpB d.files[t].name name) : hasN d.files name = decide (cmpB d.files[k].name name = 0) := by
  rw [Bool.eq_iff_iff, decide_eq_true_eq, hasN, List.any_eq_true]
  constructor
  · rintro ⟨f, hf, e⟩
    obtain ⟨i, hi, rfl⟩ := List.getElem_of_mem hf
    have e := of_decide_eq_true e
    have h0 := (cmpB_zero _ _).2 e
    by_cases hik : i < k
    · have := h1 i hi hik; omega
    · by_cases e2 : i = k
      · subst e2; exact h0
      · have h3 := sorted_of hd i k (by omega) hi
        rw [e] at h3
        have := (cmpB_neg _ _).2 h3
        have := h2 k hk (Nat.le_refl _)
        omega
  · intro h
    exact ⟨_, List.getElem_mem hk, by simpa using (cmpB_zero _ _).1 h⟩
theorem hasN_none {fs : List DStored} {name : ByteArray} (h1 : ∀ t (h : t < fs.length), cmpB fs[t].name name < 0) : hasN fs name = false := by
  rw [Bool.eq_false_iff]
  intro h
  rw [hasN, List.any_eq_true] at h
  obtain ⟨f, hf, e⟩ := h
  obtain ⟨i, hi, rfl⟩ := List.getElem_of_mem hf
  have := (cmpB_zero _ _).2 (of_decide_eq_true e)
  have := h1 i hi
  omega
def findI (fs : List DStored) (name : ByteArray) : Int := if hasN fs name then ((fs.findIdx fun f => decide (f.name = name) : Nat) : Int) else -1
theorem findI_at {fs : List DStored} {name : ByteArray} {k : Nat} (hk : k < fs.length) (h1 : ∀ t (h : t < fs.length), t < k → fs[t].name ≠ name) (h2 : fs[k].name = name) : findI fs name = k := by
  have h : hasN fs name = true := by rw [hasN, List.any_eq_true]; exact ⟨_, List.getElem_mem hk, by simpa using h2⟩
  rw [findI, if_pos h]
  have : (fs.findIdx fun f => decide (f.name = name)) = k := by
    rw [List.findIdx_eq hk]
    exact ⟨by simpa using h2, fun j hj => by simpa using h1 j (by omega) hj⟩
  rw [this]
theorem findI_none {fs : List DStored} {name : ByteArray} (h1 : ∀ t (h : t < fs.length), fs[t].name ≠ name) : findI fs name = -1 ∧ hasN fs name = false := by
  have h : hasN fs name = false := by
    rw [Bool.eq_false_iff]
    intro h
    rw [hasN, List.any_eq_true] at h
    obtain ⟨f, hf, e⟩ := h
    obtain ⟨i, hi, rfl⟩ := List.getElem_of_mem hf
    exact h1 i hi (of_decide_eq_true e)
  rw [findI, h]
  exact ⟨rfl, rfl⟩
theorem findI_eq {d : DDrive} (hd : driveOk d = true) {name : ByteArray} (h : hasN d.files name = true) : ∃ hp : findP d.files name < d.files.length, findI d.files name = findP d.files name ∧ (d.files[findP d.files name]'hp).name = name := by
  rw [hasN, List.any_eq_true] at h
  obtain ⟨f, hf, e⟩ := h
  obtain ⟨i, hi, rfl⟩ := List.getElem_of_mem hf
  have e := of_decide_eq_true e
  have hlt : ∀ t (h : t < d.files.length), t < i → bLt d.files[t].name name = true := fun t h ht => by rw [← e]; exact sorted_of hd i t ht hi
  have hge : ∀ t (h : t < d.files.length), i ≤ t → bLt d.files[t].name name = false := fun t h ht => by
    by_cases e2 : t = i
    · subst e2; rw [e]; exact bLt_irrefl _
    · rw [Bool.eq_false_iff]
      intro h3
      have h4 := sorted_of hd t i (by omega) h
      rw [e] at h4
      have := bLt_trans h3 h4
      have h5 := bLt_irrefl d.files[t].name
      rw [h5] at this; cases this
  have hP : findP d.files name = i := countP_cut _ i (by omega) hlt hge
  refine ⟨by omega, ?_, ?_⟩
  · rw [hP]
    refine findI_at hi (fun t h ht e2 => ?_) e
    have h6 := hlt t h ht
    have h7 := bLt_irrefl name
    rw [e2, h7] at h6; cases h6
  · simp only [hP]; exact e
end Go.Proofs.YthdejoipdgahiaaGreatDoor
namespace Go.Proofs.YthdejoipdgahiaaGreatDoor
open Go.RowKit
set_option linter.unusedSimpArgs false
set_option linter.unusedVariables false
theorem ofIntN (n : Nat) {k : Nat} (h : n < 2 ^ k) : (BitVec.ofInt k (n : Int)).toNat = n := by
  rw [BitVec.ofInt_natCast, BitVec.toNat_ofNat]; exact Nat.mod_eq_of_lt h
theorem wrapN {n : Nat} (h : n < 9223372036854775808) : IntKind.i64.wrap (n : Int) = (n : Int) := (wrap64_id (a := (n : Int)) (by omega) (by omega)).symm
theorem xorN {a b : Nat} (ha : a < 9223372036854775808) (hb : b < 9223372036854775808) : bits .xor .i64 (a : Int) (b : Int) = ((a ^^^ b : Nat) : Int) := by
  show IntKind.i64.wrap ((BitVec.ofInt 64 (a : Int) ^^^ BitVec.ofInt 64 (b : Int)).toNat : Int) = _
  rw [BitVec.toNat_xor, ofIntN _ (by omega), ofIntN _ (by omega), wrapN]
  exact Nat.xor_lt_two_pow (n := 63) ha hb
theorem and1N {b : Nat} (hb : b < 9223372036854775808) : bits .and .i64 (b : Int) 1 = ((b % 2 : Nat) : Int) := by
  show IntKind.i64.wrap ((BitVec.ofInt 64 (b : Int) &&& BitVec.ofInt 64 ((1 : Nat) : Int)).toNat : Int) = _
  rw [BitVec.toNat_and, ofIntN _ (by omega), ofIntN _ (by omega), Nat.and_one_is_mod, wrapN]
  omega
def dblN (a : Nat) : Nat := if 255 < 2 * a then (2 * a) ^^^ 285 else 2 * a
def mulG : Nat → Nat → Nat → Nat → Nat
  | 0, _, _, o => o
  | n + 1, a, b, o => mulG n (dblN a) (b / 2) (if b % 2 = 1 then o ^^^ a else o)
def mulN (a b : Nat) : Nat := mulG 8 a b 0
theorem xor256 {a b : Nat} (ha : a < 256) (hb : b < 256) : a ^^^ b < 256 := Nat.xor_lt_two_pow (n := 8) ha hb
theorem dblN_lt : ∀ {a : Nat}, a < 256 → dblN a < 256 := fun {a} h => (by decide +kernel : ∀ a, a < 256 → dblN a < 256) a h
theorem mulG_zero (a o : Nat) : ∀ n, mulG n a 0 o = o := by
  intro n
  induction n generalizing a with
  | zero => rfl
  | succ n ih => exact ih _
theorem mulG_lt : ∀ {n a b o : Nat}, a < 256 → o < 256 → mulG n a b o < 256
  | 0, _, _, _, _, ho => ho
  | n + 1, a, b, o, ha, ho => mulG_lt (n := n) (dblN_lt ha) (by split; exact xor256 ho ha; exact ho)
theorem mulN_lt {a b : Nat} (ha : a < 256) : mulN a b < 256 := mulG_lt ha (by decide)
theorem xor_lc (a b c : Nat) : a ^^^ (b ^^^ c) = b ^^^ (a ^^^ c) := by rw [← Nat.xor_assoc, Nat.xor_comm a b, Nat.xor_assoc]
theorem dbl_xor' : ∀ {a b : Nat}, a < 256 → b < 256 → dblN (a ^^^ b) = dblN a ^^^ dblN b := by
  intro a b ha hb
  have e : ∀ {x : Nat}, x < 256 → dblN x = ((x <<< 1) ^^^ (if x.testBit 7 then 285 else 0)) := fun {x} hx => (by decide +kernel : ∀ x, x < 256 → dblN x = ((x <<< 1) ^^^ (if x.testBit 7 then 285 else 0))) x hx
  rw [e (xor256 ha hb), e ha, e hb, Nat.testBit_xor, Nat.shiftLeft_xor_distrib]
  cases a.testBit 7 <;> cases b.testBit 7 <;> simp [Nat.xor_assoc, Nat.xor_comm, xor_lc]
theorem xor_mid (a b c d : Nat) : (a ^^^ b) ^^^ (c ^^^ d) = (a ^^^ c) ^^^ (b ^^^ d) := by rw [Nat.xor_assoc, Nat.xor_assoc, xor_lc b c d]
theorem mulG_xor : ∀ {n a a' b o o' : Nat}, a < 256 → a' < 256 → mulG n (a ^^^ a') b (o ^^^ o') = mulG n a b o ^^^ mulG n a' b o'
  | 0, _, _, _, _, _, _, _ => rfl
  | n + 1, a, a', b, o, o', ha, ha' => by
    simp only [mulG]
    rw [dbl_xor' ha ha', ← mulG_xor (dblN_lt ha) (dblN_lt ha')]
    congr 1
    split
    · rw [xor_mid]
    · rfl
theorem mulG_xor2 : ∀ {n a b b' o o' : Nat}, mulG n a (b ^^^ b') (o ^^^ o') = mulG n a b o ^^^ mulG n a b' o'
  | 0, _, _, _, _, _ => rfl
  | n + 1, a, b, b', o, o' => by
    simp only [mulG]
    have h1 : (b ^^^ b') / 2 = b / 2 ^^^ b' / 2 := Nat.xor_div_two
    have h2 : (b ^^^ b') % 2 = (b % 2 + b' % 2) % 2 := by
      have := Nat.xor_mod_two_pow (a := b) (b := b') (n := 1)
      rw [Nat.pow_one] at this
      rw [this]
      rcases Nat.mod_two_eq_zero_or_one b with e | e <;> rcases Nat.mod_two_eq_zero_or_one b' with e' | e' <;> rw [e, e'] <;> rfl
    rw [h1, ← mulG_xor2]
    congr 1
    rw [h2]
    rcases Nat.mod_two_eq_zero_or_one b with e | e <;> rcases Nat.mod_two_eq_zero_or_one b' with e' | e' <;> simp only [e, e'] <;> simp [Nat.xor_assoc, Nat.xor_comm, xor_lc]
    · rw [← Nat.xor_assoc a a, Nat.xor_self, Nat.zero_xor]
theorem mulN_xor {a a' b : Nat} (ha : a < 256) (ha' : a' < 256) : mulN (a ^^^ a') b = mulN a b ^^^ mulN a' b := mulG_xor (o := 0) (o' := 0) ha ha'
theorem mulN_xor2 {a b b' : Nat} : mulN a (b ^^^ b') = mulN a b ^^^ mulN a b' := mulG_xor2 (o := 0) (o' := 0)
theorem mulN_comm {a b : Nat} (ha : a < 256) (hb : b < 256) : mulN a b = mulN b a := by
  have e : ∀ {x : Nat}, x < 256 → x = (16 * (x / 16)) ^^^ (x % 16) := fun {x} hx => (by decide +kernel : ∀ x, x < 256 → x = (16 * (x / 16)) ^^^ (x % 16)) x hx
  have c1 : ∀ i : Nat, i < 16 → ∀ j : Nat, j < 16 → mulN (16 * i) (16 * j) = mulN (16 * j) (16 * i) := by decide +kernel
  have c2 : ∀ i : Nat, i < 16 → ∀ j : Nat, j < 16 → mulN (16 * i) j = mulN j (16 * i) := by decide +kernel
  have c3 : ∀ i : Nat, i < 16 → ∀ j : Nat, j < 16 → mulN i j = mulN j i := by decide +kernel
  have ha1 : a / 16 < 16 := by omega
  have hb1 : b / 16 < 16 := by omega
  have ha2 : a % 16 < 16 := by omega
  have hb2 : b % 16 < 16 := by omega
  rw [e ha, e hb, mulN_xor2, mulN_xor (by omega) (by omega), mulN_xor (by omega) (by omega), mulN_xor2, mulN_xor (by omega) (by omega), mulN_xor (by omega) (by omega),
    c1 _ ha1 _ hb1, c2 _ ha1 _ hb2, c3 _ ha2 _ hb2, ← c2 _ hb1 _ ha2]
  rw [xor_mid]
theorem mulN_zero (a : Nat) : mulN a 0 = 0 := mulG_zero a 0 8
theorem zero_mulN {b : Nat} (hb : b < 256) : mulN 0 b = 0 := by rw [mulN_comm (by decide) hb]; exact mulN_zero b
theorem mulN_one {a : Nat} (ha : a < 256) : mulN a 1 = a := (by decide +kernel : ∀ a, a < 256 → mulN a 1 = a) a ha
def powG : Nat → Nat → Nat → Nat → Nat
  | 0, _, _, o => o
  | k + 1, a, n, o => powG k (mulN a a) (n / 2) (if n % 2 = 1 then mulN o a else o)
def invN (a : Nat) : Nat := powG 8 a 254 1
theorem powG_zero (a o : Nat) : ∀ k, powG k a 0 o = o := by
  intro n
  induction n generalizing a with
  | zero => rfl
  | succ n ih => exact ih _
theorem powG_lt : ∀ {k a n o : Nat}, a < 256 → o < 256 → powG k a n o < 256
  | 0, _, _, _, _, ho => ho
  | n + 1, a, b, o, ha, ho => powG_lt (k := n) (mulN_lt ha) (by split; exact mulN_lt ho; exact ho)
theorem invN_lt {a : Nat} (ha : a < 256) : invN a < 256 := powG_lt ha (by decide)
theorem invN_zero : invN 0 = 0 := by decide +kernel
end Go.Proofs.YthdejoipdgahiaaGreatDoor
namespace Go.Proofs.YthdejoipdgahiaaGreatDoor
set_option linter.unusedSimpArgs false
set_option linter.unusedVariables false
theorem lin_ext {f g : Nat → Nat} (hf : ∀ a b, a < 256 → b < 256 → f (a ^^^ b) = f a ^^^ f b) (hg : ∀ a b, a < 256 → b < 256 → g (a ^^^ b) = g a ^^^ g b) (h : ∀ i, i < 8 → f (2 ^ i) = g (2 ^ i)) : ∀ a, a < 256 → f a = g a := by
  have h0 : f 0 = g 0 := by
    have e1 := hf 0 0 (by decide) (by decide)
    have e2 := hg 0 0 (by decide) (by decide)
    rw [Nat.xor_self, Nat.xor_self] at e1 e2
    rw [e1, e2]
  have hx : ∀ n, n < 8 → ∀ r, r < 2 ^ n → 2 ^ n ^^^ r = 2 ^ n + r := by decide +kernel
  have key : ∀ n, n ≤ 8 → ∀ a, a < 2 ^ n → f a = g a := by
    intro n
    induction n with
    | zero =>
      intro _ a ha
      have e0 : a = 0 := by simpa using ha
      rw [e0]; exact h0
    | succ n ih =>
      intro hn a ha
      rcases Nat.lt_or_ge a (2 ^ n) with h1 | h1
      · exact ih (by omega) a h1
      · have hr : a - 2 ^ n < 2 ^ n := by rw [Nat.pow_succ] at ha; omega
        have e := hx n (by omega) (a - 2 ^ n) hr
        have hb : 2 ^ n < 256 := Nat.pow_lt_pow_right (by decide) (show n < 8 by omega)
        rw [show a = 2 ^ n ^^^ (a - 2 ^ n) by omega, hf _ _ hb (by omega), hg _ _ hb (by omega), h n (by omega), ih (by omega) _ hr]
  exact key 8 (Nat.le_refl _)
theorem mulN_assoc {a b c : Nat} (ha : a < 256) (hb : b < 256) (hc : c < 256) : mulN (mulN a b) c = mulN a (mulN b c) := by
  have basis : ∀ i, i < 8 → ∀ j, j < 8 → ∀ k, k < 8 → mulN (mulN (2 ^ i) (2 ^ j)) (2 ^ k) = mulN (2 ^ i) (mulN (2 ^ j) (2 ^ k)) := by decide +kernel
  have hp : ∀ i, i < 8 → 2 ^ i < 256 := fun i hi => Nat.pow_lt_pow_right (by decide) (show i < 8 from hi)
  refine lin_ext (f := fun a => mulN (mulN a b) c) (g := fun a => mulN a (mulN b c)) (fun x y hx hy => ?_) (fun x y hx hy => mulN_xor hx hy) (fun i hi => ?_) a ha
  · show mulN (mulN (x ^^^ y) b) c = _
    rw [mulN_xor hx hy, mulN_xor (mulN_lt hx) (mulN_lt hy)]
  · refine lin_ext (f := fun b => mulN (mulN (2 ^ i) b) c) (g := fun b => mulN (2 ^ i) (mulN b c)) (fun x y hx hy => ?_) (fun x y hx hy => ?_) (fun j hj => ?_) b hb
    · show mulN (mulN (2 ^ i) (x ^^^ y)) c = _
      rw [mulN_xor2, mulN_xor (mulN_lt (hp i hi)) (mulN_lt (hp i hi))]
    · show mulN (2 ^ i) (mulN (x ^^^ y) c) = _
      rw [mulN_xor hx hy, mulN_xor2]
    · refine lin_ext (f := fun c => mulN (mulN (2 ^ i) (2 ^ j)) c) (g := fun c => mulN (2 ^ i) (mulN (2 ^ j) c)) (fun x y hx hy => mulN_xor2) (fun x y hx hy => ?_) (fun k hk => basis i hi j hj k hk) c hc
      show mulN (2 ^ i) (mulN (2 ^ j) (x ^^^ y)) = _
      rw [mulN_xor2, mulN_xor2]
theorem one_mulN {a : Nat} (ha : a < 256) : mulN 1 a = a := by rw [mulN_comm (by decide) ha, mulN_one ha]
theorem mul_inv {a : Nat} (ha : a < 256) (h0 : a ≠ 0) : mulN a (invN a) = 1 := (by decide +kernel : ∀ a, a < 256 → a ≠ 0 → mulN a (invN a) = 1) a ha h0
theorem mul_eq_zero {a b : Nat} (ha : a < 256) (hb : b < 256) (h : mulN a b = 0) (h0 : b ≠ 0) : a = 0 := by
  have e : mulN (mulN a b) (invN b) = a := by rw [mulN_assoc ha hb (invN_lt hb), mul_inv hb h0, mulN_one ha]
  rw [h, zero_mulN (invN_lt hb)] at e
  exact e.symm
theorem xor_ne {a b : Nat} (h : a ≠ b) : a ^^^ b ≠ 0 := fun e => h (by
  have : (a ^^^ b) ^^^ b = 0 ^^^ b := by rw [e]
  rwa [Nat.xor_assoc, Nat.xor_self, Nat.xor_zero, Nat.zero_xor] at this)
def xs : Nat → (Nat → Nat) → Nat
  | 0, _ => 0
  | n + 1, f => xs n f ^^^ f n
theorem xs_lt : ∀ {n : Nat} {f : Nat → Nat}, (∀ i, i < n → f i < 256) → xs n f < 256
  | 0, _, _ => by show 0 < 256; decide
  | n + 1, f, h => xor256 (xs_lt fun i hi => h i (by omega)) (h n (by omega))
theorem xs_congr : ∀ {n : Nat} {f g : Nat → Nat}, (∀ i, i < n → f i = g i) → xs n f = xs n g
  | 0, _, _, _ => rfl
  | n + 1, f, g, h => by rw [xs, xs, xs_congr fun i hi => h i (by omega), h n (by omega)]
theorem xs_xor : ∀ (n : Nat) (f g : Nat → Nat), xs n (fun i => f i ^^^ g i) = xs n f ^^^ xs n g
  | 0, _, _ => by show 0 = 0 ^^^ 0; rfl
  | n + 1, f, g => by rw [xs, xs, xs, xs_xor n f g, xor_mid]
theorem xs_mul {a : Nat} (ha : a < 256) : ∀ {n : Nat} {f : Nat → Nat}, (∀ i, i < n → f i < 256) → mulN a (xs n f) = xs n (fun i => mulN a (f i))
  | 0, _, _ => mulN_zero a
  | n + 1, f, h => by rw [xs, xs, mulN_xor2, xs_mul ha fun i hi => h i (by omega)]
theorem xs_zero : ∀ {n : Nat} {f : Nat → Nat}, (∀ i, i < n → f i = 0) → xs n f = 0
  | 0, _, _ => rfl
  | n + 1, f, h => by rw [xs, xs_zero fun i hi => h i (by omega), h n (by omega)]; rfl
theorem xor_zero_eq {a b : Nat} (h : a ^^^ b = 0) : a = b := Classical.byContradiction fun hn => xor_ne hn h
theorem mulN_lc {a b c : Nat} (ha : a < 256) (hb : b < 256) (hc : c < 256) : mulN a (mulN b c) = mulN b (mulN a c) := by rw [← mulN_assoc ha hb hc, mulN_comm ha hb, mulN_assoc hb ha hc]
theorem inv_ne {a : Nat} (ha : a < 256) (h0 : a ≠ 0) : invN a ≠ 0 := fun e => by
  have := mul_inv ha h0
  rw [e, mulN_zero] at this
  cases this
theorem inv_sub {a b : Nat} (ha : a < 256) (hb : b < 256) (h0 : a ≠ 0) (h1 : b ≠ 0) : invN a ^^^ invN b = mulN (a ^^^ b) (mulN (invN a) (invN b)) := by
  rw [mulN_xor ha hb, ← mulN_assoc ha (invN_lt ha) (invN_lt hb), mul_inv ha h0, one_mulN (invN_lt hb), mulN_lc hb (invN_lt ha) (invN_lt hb), mul_inv hb h1, mulN_one (invN_lt ha), Nat.xor_comm]
theorem xor_split (a b c : Nat) : a ^^^ b = (a ^^^ c) ^^^ (c ^^^ b) := by rw [Nat.xor_assoc, ← Nat.xor_assoc c, Nat.xor_self, Nat.zero_xor]
theorem cauchy_ns : ∀ (e : Nat) (x y c : Nat → Nat), (∀ i, i < e → x i < 256) → (∀ i, i < e → y i < 256) → (∀ i, i < e → c i < 256) → (∀ i, i < e → ∀ j, j < e → x i ≠ y j) →
    (∀ i, i < e → ∀ j, j < e → x i = x j → i = j) → (∀ i, i < e → ∀ j, j < e → y i = y j → i = j) →
    (∀ i, i < e → xs e (fun j => mulN (c j) (invN (x i ^^^ y j))) = 0) → ∀ j, j < e → c j = 0
  | 0, _, _, _, _, _, _, _, _, _, _, j, hj => by omega
  | e + 1, x, y, c, hx, hy, hc, hxy, hxi, hyi, h, j, hj => by
    have xl : ∀ i j, i < e + 1 → j < e + 1 → x i ^^^ y j < 256 := fun i j hi hj => xor256 (hx i hi) (hy j hj)
    have xn : ∀ i j, i < e + 1 → j < e + 1 → x i ^^^ y j ≠ 0 := fun i j hi hj => xor_ne (hxy i hi j hj)
    have il : ∀ i j, i < e + 1 → j < e + 1 → invN (x i ^^^ y j) < 256 := fun i j hi hj => invN_lt (xl i j hi hj)
    have yl : ∀ j, j < e + 1 → y j ^^^ y e < 256 := fun j hj => xor256 (hy j hj) (hy e (by omega))
    have dl : ∀ j, j < e + 1 → mulN (c j) (y j ^^^ y e) < 256 := fun j hj => mulN_lt (hc j hj)
    have h1 : ∀ i, i < e + 1 → xs (e + 1) (fun j => c j ^^^ mulN (mulN (c j) (y j ^^^ y e)) (invN (x i ^^^ y j))) = 0 := fun i hi => by
      have := congrArg (mulN (x i ^^^ y e)) (h i hi)
      rw [mulN_zero, xs_mul (xl i e hi (by omega)) (fun j hj => mulN_lt (hc j hj))] at this
      rw [← this]
      refine xs_congr fun j hj => ?_
      show c j ^^^ mulN (mulN (c j) (y j ^^^ y e)) (invN (x i ^^^ y j)) = mulN (x i ^^^ y e) (mulN (c j) (invN (x i ^^^ y j)))
      rw [xor_split (x i) (y e) (y j), mulN_xor (xl i j hi hj) (yl j hj), mulN_lc (xl i j hi hj) (hc j hj) (il i j hi hj), mul_inv (xl i j hi hj) (xn i j hi hj), mulN_one (hc j hj), ← mulN_assoc (yl j hj) (hc j hj) (il i j hi hj), mulN_comm (yl j hj) (hc j hj)]
    have h2 : ∀ i, i < e + 1 → xs e (fun j => mulN (mulN (c j) (y j ^^^ y e)) (invN (x i ^^^ y j))) = xs (e + 1) c := fun i hi => by
      have := h1 i hi
      rw [xs_xor] at this
      have h3 := xor_zero_eq this
      rw [h3, xs]
      show _ = _ ^^^ mulN (mulN (c e) (y e ^^^ y e)) (invN (x i ^^^ y e))
      rw [Nat.xor_self, mulN_zero, zero_mulN (il i e hi (by omega)), Nat.xor_zero]
    have h4 : ∀ i, i < e → xs e (fun j => mulN (mulN (mulN (c j) (y j ^^^ y e)) (invN (x e ^^^ y j))) (invN (x i ^^^ y j))) = 0 := fun i hi => by
      have xx : x i ^^^ x e < 256 := xor256 (hx i (by omega)) (hx e (by omega))
      have xz : x i ^^^ x e ≠ 0 := xor_ne fun e1 => by have := hxi i (by omega) e (by omega) e1; omega
      have e1 : xs e (fun j => mulN (mulN (c j) (y j ^^^ y e)) (invN (x i ^^^ y j)) ^^^ mulN (mulN (c j) (y j ^^^ y e)) (invN (x e ^^^ y j))) = 0 := by
        rw [xs_xor, h2 i (by omega), h2 e (by omega), Nat.xor_self]
      refine mul_eq_zero (b := x i ^^^ x e) (xs_lt fun j hj => mulN_lt (mulN_lt (dl j (by omega)))) xx ?_ xz
      rw [mulN_comm (xs_lt fun j hj => mulN_lt (mulN_lt (dl j (by omega)))) xx, xs_mul xx fun j hj => mulN_lt (mulN_lt (dl j (by omega))), ← e1]
      refine xs_congr fun j hj => ?_
      have i1 := il i j (by omega) (by omega)
      have i2 := il e j (by omega) (by omega)
      have d1 := dl j (by omega)
      show mulN (x i ^^^ x e) (mulN (mulN (mulN (c j) (y j ^^^ y e)) (invN (x e ^^^ y j))) (invN (x i ^^^ y j))) = mulN (mulN (c j) (y j ^^^ y e)) (invN (x i ^^^ y j)) ^^^ mulN (mulN (c j) (y j ^^^ y e)) (invN (x e ^^^ y j))
      rw [← mulN_xor2, inv_sub (xl i j (by omega) (by omega)) (xl e j (by omega) (by omega)) (xn i j (by omega) (by omega)) (xn e j (by omega) (by omega)),
        show (x i ^^^ y j) ^^^ (x e ^^^ y j) = x i ^^^ x e by rw [xor_mid, Nat.xor_self, Nat.xor_zero], mulN_lc d1 xx (mulN_lt i1), mulN_assoc d1 i2 i1, mulN_comm i2 i1]
    have h5 := cauchy_ns e x y (fun j => mulN (mulN (c j) (y j ^^^ y e)) (invN (x e ^^^ y j))) (fun i hi => hx i (by omega)) (fun i hi => hy i (by omega)) (fun j hj => mulN_lt (dl j (by omega)))
      (fun i hi j hj => hxy i (by omega) j (by omega)) (fun i hi j hj => hxi i (by omega) j (by omega)) (fun i hi j hj => hyi i (by omega) j (by omega)) h4
    have h6 : ∀ j, j < e → c j = 0 := fun j hj => by
      have e1 := mul_eq_zero (dl j (by omega)) (il e j (by omega) (by omega)) (h5 j hj) (inv_ne (xl e j (by omega) (by omega)) (xn e j (by omega) (by omega)))
      exact mul_eq_zero (hc j (by omega)) (yl j (by omega)) e1 (xor_ne fun e2 => by have := hyi j (by omega) e (by omega) e2; omega)
    rcases Nat.lt_or_ge j e with h7 | h7
    · exact h6 j h7
    · obtain rfl : j = e := by omega
      have := h j hj
      rw [xs, xs_zero fun i hi => by rw [h6 i hi, zero_mulN (il j i hj (by omega))], Nat.zero_xor] at this
      exact mul_eq_zero (hc j hj) (il j j hj hj) this (inv_ne (xl j j hj hj) (xn j j hj hj))
end Go.Proofs.YthdejoipdgahiaaGreatDoor
namespace Go.Proofs.YthdejoipdgahiaaGreatDoor
set_option linter.unusedSimpArgs false
set_option linter.unusedVariables false
theorem getD_lt {α : Type} {l : List α} {i : Nat} {d : α} (h : i < l.length) : l.getD i d = l[i] := by rw [List.getD_eq_getElem?_getD, List.getElem?_eq_getElem h]; rfl
theorem getD_ge {α : Type} {l : List α} {i : Nat} {d : α} (h : l.length ≤ i) : l.getD i d = d := by rw [List.getD_eq_getElem?_getD, List.getElem?_eq_none h]; rfl
def sclR (x : Nat) (r : List Nat) : List Nat := r.map fun n => mulN n x
def addR (r o : List Nat) (y : Nat) : List Nat := List.zipWith (fun a b => a ^^^ mulN b y) r o
def rw' (L : List (List Nat)) (i : Nat) : List Nat := L.getD i []
def cel (L : List (List Nat)) (i j : Nat) : Nat := (rw' L i).getD j 0
def swR (L : List (List Nat)) (c p : Nat) : List (List Nat) := (L.set c (rw' L p)).set p (rw' L c)
def elimR (L : List (List Nat)) (c : Nat) : Nat → List (List Nat)
  | 0 => L
  | i + 1 => if i = c then elimR L c i else (elimR L c i).set i (addR (rw' (elimR L c i) i) (rw' (elimR L c i) c) (cel (elimR L c i) i c))
def sclL (L : List (List Nat)) (c : Nat) : List (List Nat) := L.set c (sclR (invN (cel L c c)) (rw' L c))
def pivR (L : List (List Nat)) (c : Nat) : Nat := c + (L.drop c).findIdx (fun r => decide (r.getD c 0 ≠ 0))
def stepR (L : List (List Nat)) (c : Nat) : List (List Nat) := elimR (sclL (swR L c (pivR L c)) c) c L.length
def gzR (L : List (List Nat)) : Nat → List (List Nat)
  | 0 => L
  | c + 1 => stepR (gzR L c) c
structure RowsOk (n w : Nat) (L : List (List Nat)) : Prop where
  len : L.length = n
  wid : ∀ r ∈ L, r.length = w
  byt : ∀ r ∈ L, ∀ x ∈ r, x < 256
theorem rw_mem {L : List (List Nat)} {i : Nat} (h : i < L.length) : rw' L i ∈ L := by
  rw [rw', getD_lt h]; exact List.getElem_mem h
theorem RowsOk.rl {n w : Nat} {L : List (List Nat)} (h : RowsOk n w L) {i : Nat} (hi : i < n) : (rw' L i).length = w := h.wid _ (rw_mem (by rw [h.len]; exact hi))
theorem RowsOk.rb {n w : Nat} {L : List (List Nat)} (h : RowsOk n w L) {i : Nat} (hi : i < n) : ∀ x ∈ rw' L i, x < 256 := h.byt _ (rw_mem (by rw [h.len]; exact hi))
theorem getD_byte {r : List Nat} (h : ∀ x ∈ r, x < 256) (j : Nat) : r.getD j 0 < 256 := by
  rcases Nat.lt_or_ge j r.length with h1 | h1
  · rw [getD_lt h1]; exact h _ (List.getElem_mem h1)
  · rw [getD_ge h1]; decide
theorem RowsOk.cb {n w : Nat} {L : List (List Nat)} (h : RowsOk n w L) (i j : Nat) : cel L i j < 256 := by
  rcases Nat.lt_or_ge i L.length with h1 | h1
  · exact getD_byte (h.byt _ (rw_mem h1)) j
  · rw [cel, rw', getD_ge h1]; show 0 < 256; decide
theorem RowsOk.set {n w : Nat} {L : List (List Nat)} (h : RowsOk n w L) (i : Nat) {r : List Nat} (hr : r.length = w) (hb : ∀ x ∈ r, x < 256) : RowsOk n w (L.set i r) where
  len := by rw [List.length_set, h.len]
  wid := fun x hx => (List.mem_or_eq_of_mem_set hx).elim (h.wid x) fun e => e ▸ hr
  byt := fun x hx => (List.mem_or_eq_of_mem_set hx).elim (h.byt x) fun e => e ▸ hb
theorem rw_set {L : List (List Nat)} {i : Nat} (h : i < L.length) (r : List Nat) (i' : Nat) : rw' (L.set i r) i' = if i' = i then r else rw' L i' := by
  by_cases e : i' = i
  · subst e; rw [if_pos rfl, rw', List.getD_eq_getElem?_getD, List.getElem?_set_self h]; rfl
  · rw [if_neg e, rw', rw', List.getD_eq_getElem?_getD, List.getD_eq_getElem?_getD, List.getElem?_set_ne (Ne.symm e)]
theorem cel_set {L : List (List Nat)} {i : Nat} (h : i < L.length) (r : List Nat) (i' j : Nat) : cel (L.set i r) i' j = if i' = i then r.getD j 0 else cel L i' j := by
  rw [cel, rw_set h]; split <;> rfl
theorem sclR_len (x : Nat) (r : List Nat) : (sclR x r).length = r.length := by simp [sclR]
theorem sclR_byte {x : Nat} {r : List Nat} (h : ∀ x ∈ r, x < 256) : ∀ y ∈ sclR x r, y < 256 := fun y hy => by
  obtain ⟨n, hn, rfl⟩ := List.mem_map.1 hy; exact mulN_lt (h n hn)
theorem addR_len {r o : List Nat} {y : Nat} (h : r.length = o.length) : (addR r o y).length = r.length := by simp [addR, h]
theorem sclR_getD {x : Nat} (hx : x < 256) (r : List Nat) (j : Nat) : (sclR x r).getD j 0 = mulN (r.getD j 0) x := by
  rw [sclR, List.getD_eq_getElem?_getD, List.getD_eq_getElem?_getD, List.getElem?_map]
  cases r[j]? with
  | none => exact (zero_mulN hx).symm
  | some a => rfl
theorem addR_getD {r o : List Nat} {y : Nat} (hy : y < 256) (h : r.length = o.length) (j : Nat) : (addR r o y).getD j 0 = r.getD j 0 ^^^ mulN (o.getD j 0) y := by
  rcases Nat.lt_or_ge j r.length with h1 | h1
  · rw [getD_lt (by rw [addR_len h]; exact h1), getD_lt h1, getD_lt (h ▸ h1)]; simp [addR]
  · rw [getD_ge (by rw [addR_len h]; exact h1), getD_ge h1, getD_ge (h ▸ h1), zero_mulN hy]; rfl
theorem addR_byte {r o : List Nat} {y : Nat} (h : ∀ x ∈ r, x < 256) (h2 : ∀ x ∈ o, x < 256) : ∀ z ∈ addR r o y, z < 256 := fun z hz => by
  obtain ⟨i, hi, rfl⟩ := List.mem_iff_getElem.1 hz
  simp only [addR, List.getElem_zipWith]
  exact xor256 (h _ (List.getElem_mem _)) (mulN_lt (h2 _ (List.getElem_mem _)))
theorem RowsOk.sw {n w : Nat} {L : List (List Nat)} (h : RowsOk n w L) {c p : Nat} (hc : c < n) (hp : p < n) : RowsOk n w (swR L c p) :=
  (h.set c (h.rl hp) (h.rb hp)).set p (h.rl hc) (h.rb hc)
theorem RowsOk.scl {n w : Nat} {L : List (List Nat)} (h : RowsOk n w L) {c : Nat} (hc : c < n) : RowsOk n w (sclL L c) :=
  h.set c (by rw [sclR_len]; exact h.rl hc) (sclR_byte (h.rb hc))
theorem RowsOk.elim {n w : Nat} {L : List (List Nat)} (h : RowsOk n w L) {c : Nat} (hc : c < n) : ∀ i, i ≤ n → RowsOk n w (elimR L c i)
  | 0, _ => h
  | i + 1, hi => by
    have ih := h.elim hc i (by omega)
    rw [elimR]
    split
    · exact ih
    · exact ih.set i (by rw [addR_len (by rw [ih.rl (by omega), ih.rl hc]), ih.rl (by omega)]) (addR_byte (ih.rb (by omega)) (ih.rb hc))
theorem cel_sw {n w : Nat} {L : List (List Nat)} (h : RowsOk n w L) {c p : Nat} (hc : c < n) (hp : p < n) (i j : Nat) : cel (swR L c p) i j = cel L (if i = p then c else if i = c then p else i) j := by
  rw [swR, cel_set (by rw [List.length_set, h.len]; exact hp), cel_set (by rw [h.len]; exact hc)]
  split
  · rfl
  · split <;> rfl
theorem cel_scl {n w : Nat} {L : List (List Nat)} (h : RowsOk n w L) {c : Nat} (hc : c < n) (i j : Nat) : cel (sclL L c) i j = if i = c then mulN (cel L c j) (invN (cel L c c)) else cel L i j := by
  rw [sclL, cel_set (by rw [h.len]; exact hc), sclR_getD (invN_lt (h.cb c c))]; rfl
theorem rw_elim {L : List (List Nat)} {c : Nat} : ∀ i, i ≤ L.length → ∀ i', (i ≤ i' ∨ i' = c) → rw' (elimR L c i) i' = rw' L i' 
  | 0, _, _, _ => rfl
  | i + 1, hi, i', h => by
    rw [elimR]
    split
    · exact rw_elim i (by omega) i' (by omega)
    · rw [rw_set, if_neg (by omega)]
      · exact rw_elim i (by omega) i' (by omega)
      · have : ∀ i, (elimR L c i).length = L.length := fun i => by
          induction i with
          | zero => rfl
          | succ i ih => rw [elimR]; split; exact ih; rw [List.length_set]; exact ih
        rw [this]; omega
theorem elimR_len (L : List (List Nat)) (c : Nat) : ∀ i, (elimR L c i).length = L.length
  | 0 => rfl
  | i + 1 => by rw [elimR]; split; exact elimR_len L c i; rw [List.length_set]; exact elimR_len L c i
theorem cel_elim {n w : Nat} {L : List (List Nat)} (h : RowsOk n w L) {c : Nat} (hc : c < n) : ∀ m, m ≤ n → ∀ i j, cel (elimR L c m) i j = if i < m ∧ i ≠ c then cel L i j ^^^ mulN (cel L c j) (cel L i c) else cel L i j
  | 0, _, i, j => by rw [if_neg (by omega)]; rfl
  | m + 1, hm, i, j => by
    have ih := cel_elim h hc m (by omega)
    rw [elimR]
    by_cases e : m = c
    · rw [if_pos e, ih i j]
      by_cases e2 : i < m ∧ i ≠ c
      · rw [if_pos e2, if_pos (by omega)]
      · rw [if_neg e2, if_neg (by omega)]
    · have ho := h.elim hc m (by omega)
      rw [if_neg e, cel_set (by rw [elimR_len, h.len]; omega)]
      by_cases e2 : i = m
      · subst e2
        rw [if_pos rfl, if_pos (by omega), addR_getD (ho.cb _ _) (by rw [ho.rl (by omega), ho.rl hc]), cel, rw_elim i (by rw [h.len]; omega) i (by omega), rw_elim i (by rw [h.len]; omega) c (by omega)]; rfl
      · rw [if_neg e2, ih i j]
        by_cases e3 : i < m ∧ i ≠ c
        · rw [if_pos e3, if_pos (by omega)]
        · rw [if_neg e3, if_neg (by omega)]
def NSR (n k : Nat) (f : Nat → Nat → Nat) : Prop := ∀ v : Nat → Nat, (∀ j, v j < 256) → (∀ i, i < n → xs k (fun j => mulN (f i j) (v j)) = 0) → ∀ j, j < k → v j = 0
theorem xs_cut {f : Nat → Nat} {c : Nat} : ∀ {k : Nat}, c ≤ k → (∀ j, c ≤ j → j < k → f j = 0) → xs k f = xs c f
  | 0, hc, _ => by rw [show c = 0 by omega]
  | k + 1, hc, h => by
    rcases Nat.lt_or_ge c (k + 1) with h1 | h1
    · rw [xs, h k (by omega) (by omega), Nat.xor_zero]; exact xs_cut (by omega) fun j h2 h3 => h j h2 (by omega)
    · rw [show c = k + 1 by omega]
theorem xs_one {f : Nat → Nat} {i : Nat} : ∀ {k : Nat}, i < k → (∀ j, j < k → j ≠ i → f j = 0) → xs k f = f i
  | 0, h, _ => by omega
  | k + 1, hi, h => by
    rw [xs]
    by_cases e : k = i
    · subst e; rw [xs_zero fun j hj => h j (by omega) (by omega), Nat.zero_xor]
    · rw [xs_one (by omega) fun j hj hn => h j (by omega) hn, h k (by omega) e, Nat.xor_zero]
theorem piv_ex {n k c : Nat} {f : Nat → Nat → Nat} (hk : k ≤ n) (hc : c < k) (hb : ∀ i j, f i j < 256) (hu : ∀ i, i < n → ∀ j, j < c → f i j = if i = j then 1 else 0) (hn : NSR n k f) : ∃ i, c ≤ i ∧ i < n ∧ f i c ≠ 0 := by
  refine Classical.byContradiction fun hno => ?_
  have hz : ∀ i, c ≤ i → i < n → f i c = 0 := fun i h1 h2 => Classical.byContradiction fun h3 => hno ⟨i, h1, h2, h3⟩
  have hv := hn (fun j => if j < c then f j c else if j = c then 1 else 0) (fun j => by split; exact hb _ _; split <;> decide) (fun i hi => by
    rw [xs_cut (c := c + 1) (by omega) fun j h1 h2 => by rw [if_neg (by omega), if_neg (by omega), mulN_zero], xs, if_neg (by omega), if_pos rfl, mulN_one (hb i c)]
    rcases Nat.lt_or_ge i c with h1 | h1
    · rw [xs_one h1 fun j hj hne => by rw [hu i hi j hj, if_neg (Ne.symm hne), if_pos hj, zero_mulN (hb j c)], hu i hi i h1, if_pos rfl, if_pos h1, one_mulN (hb i c), Nat.xor_self]
    · rw [xs_zero fun j hj => by rw [hu i hi j hj, if_neg (by omega), if_pos hj, zero_mulN (hb j c)], hz i h1 hi]; rfl) c hc
  rw [if_neg (by omega), if_pos rfl] at hv
  exact absurd hv (by decide)
theorem NSR.congr {n k : Nat} {f g : Nat → Nat → Nat} (h : NSR n k f) (e : ∀ i, i < n → ∀ j, j < k → f i j = g i j) : NSR n k g := fun v hv hz =>
  h v hv fun i hi => by rw [← hz i hi]; exact xs_congr fun j hj => by rw [e i hi j hj]
theorem NSR.sw {n k c p : Nat} {f : Nat → Nat → Nat} (h : NSR n k f) (hc : c < n) (hp : p < n) : NSR n k (fun i j => f (if i = p then c else if i = c then p else i) j) := fun v hv hz =>
  h v hv fun i hi => by
    have := hz (if i = p then c else if i = c then p else i) (by split; exact hc; split <;> omega)
    rw [← this]
    refine xs_congr fun j hj => ?_
    congr 2
    split
    · rename_i e; subst e
      by_cases e2 : c = i
      · simp [e2]
      · simp [e2]
    · rename_i e
      split
      · rename_i e2; simp [e2]
      · rename_i e2; simp [e, e2]
theorem NSR.scl {n k c x : Nat} {f : Nat → Nat → Nat} (h : NSR n k f) (hc : c < n) (hb : ∀ i j, f i j < 256) (hx : x < 256) (h0 : x ≠ 0) : NSR n k (fun i j => if i = c then mulN (f c j) x else f i j) := fun v hv hz =>
  h v hv fun i hi => by
    have := hz i hi
    by_cases e : i = c
    · subst e
      simp only [if_pos] at this
      refine mul_eq_zero (b := x) (xs_lt fun j hj => mulN_lt (hb i j)) hx ?_ h0
      rw [mulN_comm (xs_lt fun j hj => mulN_lt (hb i j)) hx, xs_mul hx fun j hj => mulN_lt (hb i j), ← this]
      refine xs_congr fun j hj => ?_
      show mulN x (mulN (f i j) (v j)) = mulN (mulN (f i j) x) (v j)
      rw [← mulN_assoc hx (hb i j) (hv j), mulN_comm hx (hb i j)]
    · simp only [if_neg e] at this
      exact this
theorem NSR.elim {n k c : Nat} {f : Nat → Nat → Nat} (h : NSR n k f) (hc : c < n) (hb : ∀ i j, f i j < 256) : NSR n k (fun i j => if i < n ∧ i ≠ c then f i j ^^^ mulN (f c j) (f i c) else f i j) := fun v hv hz =>
  h v hv fun i hi => by
    have h1 := hz c hc
    simp only [if_neg (show ¬(c < n ∧ c ≠ c) by omega)] at h1
    by_cases e : i = c
    · rw [e]; exact h1
    · have h2 := hz i hi
      simp only [if_pos (show i < n ∧ i ≠ c from ⟨hi, e⟩)] at h2
      have h3 : xs k (fun j => mulN (f i j ^^^ mulN (f c j) (f i c)) (v j)) = xs k (fun j => mulN (f i j) (v j)) ^^^ mulN (f i c) (xs k (fun j => mulN (f c j) (v j))) := by
        rw [xs_mul (hb i c) fun j hj => mulN_lt (hb c j), ← xs_xor]
        refine xs_congr fun j hj => ?_
        rw [mulN_xor (hb i j) (mulN_lt (hb c j)), mulN_comm (hb c j) (hb i c), mulN_assoc (hb i c) (hb c j) (hv j)]
      rw [h2, h1, mulN_zero, Nat.xor_zero] at h3
      exact h3.symm
end Go.Proofs.YthdejoipdgahiaaGreatDoor
namespace Go.Proofs.YthdejoipdgahiaaGreatDoor
open Go.RowKit
set_option linter.unusedSimpArgs false
set_option linter.unusedVariables false
def unitR (i n : Nat) : List Nat := (List.replicate n 0).set i 1
def parR (k i : Nat) : List Nat := (List.range k).map fun j => invN ((k + i) ^^^ j)
def cauchyN (k m : Nat) : List (List Nat) := (List.range k).map (fun i => unitR i k) ++ (List.range m).map (parR k)
def eNat (n : Nat) : List AV := [.lit (.int .i64 (n : Int))]
def matE (r c : Nat) (cs : List Nat) : List AV := [.lit (.int .i64 (r : Int)), .lit (.int .i64 (c : Int)), .row true 1 (cs.map eNat)]
@[simp] theorem unitR_len (i n : Nat) : (unitR i n).length = n := by simp [unitR]
@[simp] theorem parR_len (k i : Nat) : (parR k i).length = k := by simp [parR]
theorem flat_len' {α : Type} {l : List (List α)} {k : Nat} (h : ∀ x ∈ l, x.length = k) : l.flatten.length = l.length * k := by
  induction l with
  | nil => simp
  | cons x l ih => simp only [List.flatten_cons, List.length_append, ih fun y hy => h y (by simp [hy]), h x (by simp), List.length_cons, Nat.add_mul]; omega
@[simp] theorem cauchyN_len (k m : Nat) : (cauchyN k m).length = k + m := by simp [cauchyN]
theorem cauchyN_row {k m : Nat} : ∀ x ∈ cauchyN k m, x.length = k := by
  intro x hx
  simp only [cauchyN, List.mem_append, List.mem_map] at hx
  rcases hx with ⟨i, _, rfl⟩ | ⟨i, _, rfl⟩
  · exact unitR_len i k
  · exact parR_len k i
theorem units_len (i n : Nat) : (((List.range i).map fun j => unitR j n).flatten).length = i * n := by
  rw [flat_len' (k := n) (fun x hx => by obtain ⟨j, _, rfl⟩ := List.mem_map.1 hx; exact unitR_len j n)]; simp
def unitZ (n i : Nat) : List Nat := ((List.range i).map fun j => unitR j n).flatten ++ List.replicate ((n - i) * n) 0
theorem unitZ_len {n i : Nat} (h : i ≤ n) : (unitZ n i).length = n * n := by
  unfold unitZ
  rw [List.length_append, units_len, List.length_replicate, ← Nat.add_mul]; congr 1; omega
theorem unitZ_set {n i : Nat} (h : i < n) : (unitZ n i).set (i * n + i) 1 = unitZ n (i + 1) := by
  unfold unitZ
  have e : (n - i) * n = n + (n - (i + 1)) * n := by rw [show n - i = 1 + (n - (i + 1)) by omega, Nat.add_mul, Nat.one_mul]
  rw [e, ← List.replicate_append_replicate, List.set_append_right _ _ (by rw [units_len]; omega), units_len, Nat.add_sub_cancel_left, List.set_append_left _ _ (by simp; omega), List.range_succ, List.map_append, List.flatten_append, List.append_assoc]
  simp [unitR]
theorem unitZ_end (n : Nat) : unitZ n n = ((List.range n).map fun j => unitR j n).flatten := by simp [unitZ]
end Go.Proofs.YthdejoipdgahiaaGreatDoor
namespace Go.Proofs.YthdejoipdgahiaaGreatDoor
set_option linter.unusedSimpArgs false
set_option linter.unusedVariables false
structure GzI (n w : Nat) (L : List (List Nat)) (c : Nat) : Prop where
  ok : RowsOk n w L
  ns : NSR n n (cel L)
  un : ∀ i, i < n → ∀ j, j < c → cel L i j = if i = j then 1 else 0
theorem find_drop {n w : Nat} {L : List (List Nat)} (h : RowsOk n w L) {c i : Nat} (h1 : c ≤ i) (h2 : i < n) (h3 : cel L i c ≠ 0) :
    c ≤ pivR L c ∧ pivR L c < n ∧ cel L (pivR L c) c ≠ 0 := by
  have hm : rw' L i ∈ L.drop c := by
    rw [rw', getD_lt (by rw [h.len]; exact h2)]
    refine List.mem_iff_getElem.2 ⟨i - c, by rw [List.length_drop, h.len]; omega, ?_⟩
    rw [List.getElem_drop]
    congr 1
    omega
  have hl : (L.drop c).findIdx (fun r => decide (r.getD c 0 ≠ 0)) < (L.drop c).length := List.findIdx_lt_length_of_exists ⟨_, hm, by simpa [cel] using h3⟩
  have he := List.findIdx_getElem (w := hl)
  have hl' := hl
  rw [List.length_drop, h.len] at hl'
  refine ⟨by unfold pivR; omega, by unfold pivR; omega, ?_⟩
  rw [List.getElem_drop, ← getD_lt (d := [])] at he
  exact of_decide_eq_true he
theorem GzI.piv {n w c : Nat} {L : List (List Nat)} (h : GzI n w L c) (hc : c < n) : c ≤ pivR L c ∧ pivR L c < n ∧ cel L (pivR L c) c ≠ 0 := by
  obtain ⟨i, h1, h2, h3⟩ := piv_ex (Nat.le_refl n) hc h.ok.cb h.un h.ns
  exact find_drop h.ok h1 h2 h3
theorem GzI.step {n w c : Nat} {L : List (List Nat)} (h : GzI n w L c) (hc : c < n) : GzI n w (stepR L c) (c + 1) := by
  obtain ⟨h1, h2, h3⟩ := h.piv hc
  have o1 := h.ok.sw hc h2
  have o2 := o1.scl hc
  have n1 : NSR n n (cel (swR L c (pivR L c))) := (h.ns.sw hc h2).congr fun i hi j hj => (cel_sw h.ok hc h2 i j).symm
  have p1 : cel (swR L c (pivR L c)) c c ≠ 0 := by
    rw [cel_sw h.ok hc h2]
    split
    · rename_i e; rw [← e] at h3; exact h3
    · rw [if_pos rfl]; exact h3
  have iv := inv_ne (o1.cb c c) p1
  have n2 : NSR n n (cel (sclL (swR L c (pivR L c)) c)) := (n1.scl hc o1.cb (invN_lt (o1.cb c c)) iv).congr fun i hi j hj => by rw [cel_scl o1 hc]
  have n3 : NSR n n (cel (stepR L c)) := (n2.elim hc o2.cb).congr fun i hi j hj => by rw [stepR, h.ok.len, cel_elim o2 hc n (Nat.le_refl n)]
  refine ⟨by rw [stepR, h.ok.len]; exact o2.elim hc n (Nat.le_refl n), n3, fun i hi j hj => ?_⟩
  have u1 : ∀ i, i < n → ∀ j, j < c → cel (swR L c (pivR L c)) i j = if i = j then 1 else 0 := fun i hi j hj => by
    rw [cel_sw h.ok hc h2]
    by_cases e : i = pivR L c
    · rw [if_pos e, h.un c hc j hj, if_neg (by omega), if_neg (by omega)]
    · rw [if_neg e]
      by_cases e2 : i = c
      · rw [if_pos e2, h.un _ h2 j hj, if_neg (by omega), if_neg (by omega)]
      · rw [if_neg e2, h.un i hi j hj]
  have u2 : ∀ i, i < n → ∀ j, j < c → cel (sclL (swR L c (pivR L c)) c) i j = if i = j then 1 else 0 := fun i hi j hj => by
    rw [cel_scl o1 hc]
    split
    · rename_i e
      rw [u1 c hc j hj, if_neg (by omega), zero_mulN (invN_lt (o1.cb c c)), if_neg (by omega)]
    · exact u1 i hi j hj
  rw [stepR, h.ok.len, cel_elim o2 hc n (Nat.le_refl n)]
  rcases Nat.lt_or_ge j c with hj' | hj'
  · rw [u2 i hi j hj', u2 c hc j hj', if_neg (show ¬ c = j by omega), zero_mulN (o2.cb i c), Nat.xor_zero, ite_self]
  · obtain rfl : j = c := by omega
    have e1 : cel (sclL (swR L j (pivR L j)) j) j j = 1 := by rw [cel_scl o1 hc, if_pos rfl, mul_inv (o1.cb j j) p1]
    by_cases e : i = j
    · subst e; rw [if_neg (by omega), if_pos rfl, e1]
    · rw [if_pos ⟨hi, e⟩, if_neg e, e1, one_mulN (o2.cb i j), Nat.xor_self]
theorem gzR_ok {n w : Nat} {L : List (List Nat)} (h : RowsOk n w L) (hn : NSR n n (cel L)) : ∀ c, c ≤ n → GzI n w (gzR L c) c
  | 0, _ => ⟨h, hn, fun i hi j hj => by omega⟩
  | c + 1, hc => (gzR_ok h hn c (by omega)).step (by omega)
def rowC (k i : Nat) : List Nat := if i < k then unitR i k else (List.range k).map fun j => invN (i ^^^ j)
theorem rowC_len (k i : Nat) : (rowC k i).length = k := by unfold rowC; split <;> simp
theorem unitR_getD {i k : Nat} (hi : i < k) (j : Nat) : (unitR i k).getD j 0 = if j = i then 1 else 0 := by
  rw [unitR, List.getD_eq_getElem?_getD]
  by_cases e : j = i
  · subst e; rw [List.getElem?_set_self (by simpa using hi), if_pos rfl]; rfl
  · rw [List.getElem?_set_ne (Ne.symm e), if_neg e]
    rcases Nat.lt_or_ge j k with h | h
    · rw [List.getElem?_eq_getElem (by simpa using h)]; simp
    · rw [List.getElem?_eq_none (by simpa using h)]; rfl
theorem xs_filter {f : Nat → Nat} (p : Nat → Bool) : ∀ k, (∀ j, j < k → p j = false → f j = 0) → xs k f = xs ((List.range k).filter p).length (fun t => f (((List.range k).filter p).getD t 0))
  | 0, _ => rfl
  | k + 1, h => by
    rw [List.range_succ, List.filter_append]
    by_cases e : p k = true
    · rw [List.filter_cons_of_pos (l := []) e, List.filter_nil, List.length_append]
      show _ = xs (_ + 1) _
      rw [xs, xs, xs_filter p k fun j hj => h j (by omega)]
      congr 1
      · refine xs_congr fun t ht => ?_
        rw [List.getD_eq_getElem?_getD, List.getD_eq_getElem?_getD, List.getElem?_append_left ht]
      · rw [List.getD_eq_getElem?_getD, List.getElem?_append_right (Nat.le_refl _), Nat.sub_self]; rfl
    · have e' : p k = false := by simpa using e
      rw [List.filter_cons_of_neg (l := []) e, List.filter_nil, List.append_nil, xs, h k (by omega) e', Nat.xor_zero, xs_filter p k fun j hj => h j (by omega)]
theorem filter_count (p : Nat → Bool) : ∀ k, ((List.range k).filter p).length + ((List.range k).filter (fun j => !p j)).length = k
  | 0 => rfl
  | k + 1 => by
    have := filter_count p k
    rw [List.range_succ, List.filter_append, List.filter_append, List.length_append, List.length_append]
    cases e : p k <;> simp [e] <;> omega
theorem nodup_filter (p : Nat → Bool) (k : Nat) : ((List.range k).filter p).Nodup := List.Nodup.sublist List.filter_sublist List.nodup_range
theorem nodup_inj {l : List Nat} (h : l.Nodup) {i j : Nat} (hi : i < l.length) (hj : j < l.length) (e : l.getD i 0 = l.getD j 0) : i = j := by
  rw [getD_lt hi, getD_lt hj] at e
  have hp := List.pairwise_iff_getElem.1 h
  rcases Nat.lt_trichotomy i j with h1 | h1 | h1
  · exact absurd e (hp i j hi hj h1)
  · exact h1
  · exact absurd e.symm (hp j i hj hi h1)
theorem cauchy_pick {k : Nat} (hk : k ≤ 8) (p : Nat → Bool) (P : List Nat) (hP : P.Nodup) (hPk : ∀ i ∈ P, k ≤ i ∧ i < 256) (hl : ((List.range k).filter p).length + P.length = k) :
    NSR k k (cel ((((List.range k).filter p) ++ P).map (rowC k))) := by
  intro v hv hz
  have hE : ((List.range k).filter (fun j => !p j)).length = P.length := by have := filter_count p k; omega
  have row : ∀ i, i < k → rw' ((((List.range k).filter p) ++ P).map (rowC k)) i = rowC k ((((List.range k).filter p) ++ P).getD i 0) := fun i hi => by
    rw [rw', getD_lt (by simp; omega), getD_lt (by simp; omega), List.getElem_map]
  have hd : ∀ j, j < k → p j = true → v j = 0 := fun j hj hp => by
    obtain ⟨i, hi, e⟩ := List.mem_iff_getElem.1 (List.mem_filter.2 ⟨List.mem_range.2 hj, hp⟩ : j ∈ (List.range k).filter p)
    have := hz i (by omega)
    have er : rw' ((((List.range k).filter p) ++ P).map (rowC k)) i = unitR j k := by
      rw [row i (by omega), getD_lt (by simp; omega), List.getElem_append_left hi, e, rowC, if_pos hj]
    rw [xs_one hj fun j' h1 h2 => by rw [cel, er, unitR_getD hj, if_neg h2, zero_mulN (hv j')], cel, er, unitR_getD hj, if_pos rfl, one_mulN (hv j)] at this
    exact this
  have he := cauchy_ns P.length (fun t => P.getD t 0) (fun t => ((List.range k).filter (fun j => !p j)).getD t 0) (fun t => v (((List.range k).filter (fun j => !p j)).getD t 0))
    (fun i hi => by rw [getD_lt hi]; exact (hPk _ (List.getElem_mem hi)).2)
    (fun i hi => by
      rw [getD_lt (by omega)]
      have := List.mem_range.1 (List.mem_filter.1 (List.getElem_mem (l := (List.range k).filter (fun j => !p j)) (n := i) (by omega))).1
      omega)
    (fun i hi => hv _)
    (fun i hi j hj e => by
      rw [getD_lt hi, getD_lt (by omega)] at e
      have h1 := (hPk _ (List.getElem_mem hi)).1
      have h2 := List.mem_range.1 (List.mem_filter.1 (List.getElem_mem (l := (List.range k).filter (fun j => !p j)) (n := j) (by omega))).1
      omega)
    (fun i hi j hj e => nodup_inj hP hi hj e)
    (fun i hi j hj e => nodup_inj (nodup_filter _ k) (by omega) (by omega) e)
    (fun i hi => by
      have hii : ((List.range k).filter p).length + i < k := by omega
      have := hz (((List.range k).filter p).length + i) hii
      have er : rw' ((((List.range k).filter p) ++ P).map (rowC k)) (((List.range k).filter p).length + i) = (List.range k).map fun j => invN (P.getD i 0 ^^^ j) := by
        rw [row _ hii, getD_lt (by simp; omega), List.getElem_append_right (by omega), getD_lt hi]
        simp only [Nat.add_sub_cancel_left]
        rw [rowC, if_neg (by have := (hPk _ (List.getElem_mem hi)).1; omega)]
      rw [xs_filter (fun j => !p j) k (fun j hj hp => by rw [hd j hj (by simpa using hp), mulN_zero]), hE] at this
      refine Eq.trans (xs_congr fun t ht => ?_) this
      have h2 := List.mem_range.1 (List.mem_filter.1 (List.getElem_mem (l := (List.range k).filter (fun j => !p j)) (n := t) (by omega))).1
      rw [← getD_lt (d := 0)] at h2
      have e3 : cel ((((List.range k).filter p) ++ P).map (rowC k)) (((List.range k).filter p).length + i) (((List.range k).filter (fun j => !p j)).getD t 0) = invN (P.getD i 0 ^^^ ((List.range k).filter (fun j => !p j)).getD t 0) := by
        rw [cel, er, getD_lt (by simpa using h2), List.getElem_map, List.getElem_range]
      show mulN (v _) (invN (_ ^^^ _)) = mulN (cel _ _ _) (v _)
      rw [e3, mulN_comm (hv _) (invN_lt (xor256 (by rw [getD_lt hi]; exact (hPk _ (List.getElem_mem hi)).2) (by omega)))])
  intro j hj
  by_cases hp : p j = true
  · exact hd j hj hp
  · have hm : j ∈ (List.range k).filter (fun j => !p j) := List.mem_filter.2 ⟨List.mem_range.2 hj, by simpa using hp⟩
    obtain ⟨t, ht, e⟩ := List.mem_iff_getElem.1 hm
    have := he t (by omega)
    rw [getD_lt ht, e] at this
    exact this
end Go.Proofs.YthdejoipdgahiaaGreatDoor
namespace Go.Proofs.YthdejoipdgahiaaGreatDoor
set_option linter.unusedSimpArgs false
set_option linter.unusedVariables false
theorem flat_get : ∀ {L : List (List Nat)} {w : Nat}, (∀ r ∈ L, r.length = w) → ∀ i j, i < L.length → j < w → L.flatten.getD (i * w + j) 0 = cel L i j
  | [], _, _, _, _, h, _ => by simp at h
  | r :: L, w, h, 0, j, _, hj => by
    have hr := h r (by simp)
    rw [List.flatten_cons, Nat.zero_mul, Nat.zero_add, List.getD_eq_getElem?_getD, List.getElem?_append_left (by omega), ← List.getD_eq_getElem?_getD]; rfl
  | r :: L, w, h, i + 1, j, hi, hj => by
    have hr := h r (by simp)
    rw [List.flatten_cons, List.getD_eq_getElem?_getD, List.getElem?_append_right (by rw [Nat.add_mul]; omega), ← List.getD_eq_getElem?_getD, show (i + 1) * w + j - r.length = i * w + j by rw [Nat.add_mul]; omega,
      flat_get (fun r hr => h r (by simp [hr])) i j (by simpa using hi) hj]; rfl
theorem flat_set : ∀ {L : List (List Nat)} {w : Nat}, (∀ r ∈ L, r.length = w) → ∀ i j x, i < L.length → j < w → L.flatten.set (i * w + j) x = (L.set i ((rw' L i).set j x)).flatten
  | [], _, _, _, _, _, h, _ => by simp at h
  | r :: L, w, h, 0, j, x, _, hj => by
    have hr := h r (by simp)
    rw [List.flatten_cons, Nat.zero_mul, Nat.zero_add, List.set_append_left _ _ (by omega)]; rfl
  | r :: L, w, h, i + 1, j, x, hi, hj => by
    have hr := h r (by simp)
    rw [List.flatten_cons, List.set_append_right _ _ (by rw [Nat.add_mul]; omega), show (i + 1) * w + j - r.length = i * w + j by rw [Nat.add_mul]; omega,
      flat_set (fun r hr => h r (by simp [hr])) i j x (by simpa using hi) hj]; rfl
def addF (w a b x : Nat) (cs : List Nat) : Nat → List Nat
  | 0 => cs
  | j + 1 => (addF w a b x cs j).set (a * w + j) ((addF w a b x cs j).getD (a * w + j) 0 ^^^ mulN ((addF w a b x cs j).getD (b * w + j) 0) x)
def swF (w a b : Nat) (cs : List Nat) : Nat → List Nat
  | 0 => cs
  | j + 1 => ((swF w a b cs j).set (a * w + j) ((swF w a b cs j).getD (b * w + j) 0)).set (b * w + j) ((swF w a b cs j).getD (a * w + j) 0)
theorem addF_len (w a b x : Nat) (cs : List Nat) : ∀ j, (addF w a b x cs j).length = cs.length
  | 0 => rfl
  | j + 1 => by rw [addF, List.length_set, addF_len w a b x cs j]
theorem swF_len (w a b : Nat) (cs : List Nat) : ∀ j, (swF w a b cs j).length = cs.length
  | 0 => rfl
  | j + 1 => by rw [swF, List.length_set, List.length_set, swF_len w a b cs j]
theorem set_td {A L : List Nat} {i x : Nat} (hA : i < A.length) (hL : i < L.length) (hx : x = A.getD i 0) : (A.take i ++ L.drop i).set i x = A.take (i + 1) ++ L.drop (i + 1) := by
  have hl : (A.take i).length = i := by rw [List.length_take]; omega
  rw [List.take_succ_eq_append_getElem hA, List.drop_eq_getElem_cons hL, List.set_append_right _ _ (by omega), hl, Nat.sub_self, List.append_assoc, hx, getD_lt hA]; rfl
theorem get_td {A L : List Nat} {i : Nat} (hA : i < A.length) (hL : i < L.length) : (A.take i ++ L.drop i).getD i 0 = L.getD i 0 := by
  have hl : (A.take i).length = i := by rw [List.length_take]; omega
  rw [List.getD_eq_getElem?_getD, List.getElem?_append_right (by omega), hl, Nat.sub_self, List.getElem?_drop, Nat.add_zero, List.getElem?_eq_getElem hL, getD_lt hL]; rfl
theorem set_set {α : Type} (l : List α) (i : Nat) (x y : α) : (l.set i x).set i y = l.set i y := List.set_set ..
theorem set_rw {L : List (List Nat)} {i : Nat} (h : i < L.length) : L.set i (rw' L i) = L := by
  rw [rw', getD_lt h, List.set_getElem_self]
theorem addF_eq {n w : Nat} {L : List (List Nat)} (h : RowsOk n w L) {a b x : Nat} (ha : a < n) (hb : b < n) (hx : x < 256) :
    ∀ j, j ≤ w → addF w a b x L.flatten j = (L.set a ((addR (rw' L a) (rw' L b) x).take j ++ (rw' L a).drop j)).flatten
  | 0, _ => by rw [List.take_zero, List.drop_zero, List.nil_append, set_rw (by rw [h.len]; exact ha)]; rfl
  | j + 1, hj => by
    have la := h.rl ha
    have lb := h.rl hb
    have lz : (addR (rw' L a) (rw' L b) x).length = w := by rw [addR_len (by rw [la, lb]), la]
    have hw : ∀ r ∈ L.set a ((addR (rw' L a) (rw' L b) x).take j ++ (rw' L a).drop j), r.length = w := fun r hr => (List.mem_or_eq_of_mem_set hr).elim (h.wid r) fun e => by
      rw [e, List.length_append, List.length_take, List.length_drop]; omega
    have hn := h.len
    have e1 : cel (L.set a ((addR (rw' L a) (rw' L b) x).take j ++ (rw' L a).drop j)) a j = cel L a j := by
      rw [cel_set (by omega), if_pos rfl, get_td (by omega) (by omega)]; rfl
    have e2 : cel (L.set a ((addR (rw' L a) (rw' L b) x).take j ++ (rw' L a).drop j)) b j = cel L b j := by
      rw [cel_set (by omega)]
      split
      · rename_i e; subst e; rw [get_td (by omega) (by omega)]; rfl
      · rfl
    rw [addF, addF_eq h ha hb hx j (by omega), flat_get hw a j (by rw [List.length_set]; omega) (by omega), flat_get hw b j (by rw [List.length_set]; omega) (by omega), e1, e2,
      flat_set hw a j _ (by rw [List.length_set]; omega) (by omega), rw_set (by omega), if_pos rfl, set_set, set_td (by omega) (by omega)]
    rw [addR_getD hx (by rw [la, lb])]; rfl
theorem swF_eq {n w : Nat} {L : List (List Nat)} (h : RowsOk n w L) {a b : Nat} (ha : a < n) (hb : b < n) :
    ∀ j, j ≤ w → swF w a b L.flatten j = ((L.set b ((rw' L a).take j ++ (rw' L b).drop j)).set a ((rw' L b).take j ++ (rw' L a).drop j)).flatten
  | 0, _ => by rw [List.take_zero, List.drop_zero, List.nil_append, List.take_zero, List.drop_zero, List.nil_append, set_rw (by rw [h.len]; exact hb), set_rw (by rw [h.len]; exact ha)]; rfl
  | j + 1, hj => by
    have la := h.rl ha
    have lb := h.rl hb
    have hn := h.len
    have hw : ∀ r ∈ (L.set b ((rw' L a).take j ++ (rw' L b).drop j)).set a ((rw' L b).take j ++ (rw' L a).drop j), r.length = w := fun r hr => (List.mem_or_eq_of_mem_set hr).elim
      (fun hr => (List.mem_or_eq_of_mem_set hr).elim (h.wid r) fun e => by rw [e, List.length_append, List.length_take, List.length_drop]; omega)
      fun e => by rw [e, List.length_append, List.length_take, List.length_drop]; omega
    have e1 : cel ((L.set b ((rw' L a).take j ++ (rw' L b).drop j)).set a ((rw' L b).take j ++ (rw' L a).drop j)) a j = cel L a j := by
      rw [cel_set (by rw [List.length_set]; omega), if_pos rfl, get_td (by omega) (by omega)]; rfl
    have e2 : cel ((L.set b ((rw' L a).take j ++ (rw' L b).drop j)).set a ((rw' L b).take j ++ (rw' L a).drop j)) b j = cel L b j := by
      rw [cel_set (by rw [List.length_set]; omega), cel_set (by omega)]
      split
      · rename_i e; subst e; rw [get_td (by omega) (by omega)]; rfl
      · rw [if_pos rfl, get_td (by omega) (by omega)]; rfl
    rw [swF, swF_eq h ha hb j (by omega), flat_get hw a j (by rw [List.length_set, List.length_set]; omega) (by omega), flat_get hw b j (by rw [List.length_set, List.length_set]; omega) (by omega), e1, e2,
      flat_set hw a j _ (by rw [List.length_set, List.length_set]; omega) (by omega), rw_set (by rw [List.length_set]; omega), if_pos rfl, set_set,
      set_td (A := rw' L b) (L := rw' L a) (i := j) (x := cel L b j) (by omega) (by omega) rfl]
    have hw2 : ∀ r ∈ (L.set b ((rw' L a).take j ++ (rw' L b).drop j)).set a ((rw' L b).take (j + 1) ++ (rw' L a).drop (j + 1)), r.length = w := fun r hr => (List.mem_or_eq_of_mem_set hr).elim
      (fun hr => (List.mem_or_eq_of_mem_set hr).elim (h.wid r) fun e => by rw [e, List.length_append, List.length_take, List.length_drop]; omega)
      fun e => by rw [e, List.length_append, List.length_take, List.length_drop]; omega
    rw [flat_set hw2 b j _ (by rw [List.length_set, List.length_set]; omega) (by omega), rw_set (by rw [List.length_set]; omega)]
    by_cases e : b = a
    · subst e
      rw [if_pos rfl, set_set, set_set, set_set]
      congr 2
      have h0 : (rw' L b).take (j + 1) ++ (rw' L b).drop (j + 1) = rw' L b := List.take_append_drop ..
      rw [h0, show cel L b j = (rw' L b)[j]'(by omega) from getD_lt (by omega), List.set_getElem_self]
    · rw [if_neg e, rw_set (by omega), if_pos rfl, set_td (A := rw' L a) (L := rw' L b) (i := j) (x := cel L a j) (by omega) (by omega) rfl, List.set_comm _ _ (Ne.symm e), set_set, List.set_comm _ _ e]
end Go.Proofs.YthdejoipdgahiaaGreatDoor
namespace Go.Proofs.YthdejoipdgahiaaGreatDoor
set_option linter.unusedSimpArgs false
set_option linter.unusedVariables false
structure Part (f : List Nat → List Nat) : Prop where
  nil : f [] = []
  add : ∀ r o y, f (addR r o y) = addR (f r) (f o) y
  scl : ∀ x r, f (sclR x r) = sclR x (f r)
theorem part_take (k : Nat) : Part (List.take k) := ⟨List.take_nil, fun r o y => by simp [addR, List.take_zipWith], fun x r => by simp [sclR, List.map_take]⟩
theorem part_drop (k : Nat) : Part (List.drop k) := ⟨List.drop_nil, fun r o y => by simp [addR, List.drop_zipWith], fun x r => by simp [sclR, List.map_drop]⟩
theorem rw_map {f : List Nat → List Nat} (h0 : f [] = []) (L : List (List Nat)) (i : Nat) : rw' (L.map f) i = f (rw' L i) := by
  rw [rw', rw', List.getD_eq_getElem?_getD, List.getD_eq_getElem?_getD, List.getElem?_map]
  cases L[i]? with
  | none => exact h0.symm
  | some r => rfl
theorem sw_map {f : List Nat → List Nat} (h : Part f) (L : List (List Nat)) (c p : Nat) : swR (L.map f) c p = (swR L c p).map f := by
  rw [swR, swR, rw_map h.nil, rw_map h.nil, List.map_set, List.map_set]
theorem addR_self {x : Nat} : ∀ {r : List Nat}, (∀ y ∈ r, y < 256) → addR r r (x ^^^ 1) = sclR x r
  | [], _ => rfl
  | a :: r, h => by
    have ih := addR_self (x := x) (r := r) fun y hy => h y (by simp [hy])
    unfold addR sclR at *
    rw [List.zipWith_cons_cons, List.map_cons, ih]
    congr 1
    rw [mulN_xor2, mulN_one (h a (by simp)), Nat.xor_comm, Nat.xor_assoc, Nat.xor_self, Nat.xor_zero]
theorem RowsOk.part {n w w2 : Nat} {L : List (List Nat)} (h : RowsOk n w L) {f : List Nat → List Nat} (hw : ∀ r, r.length = w → (f r).length = w2) (hb : ∀ r, ∀ x ∈ f r, x ∈ r) : RowsOk n w2 (L.map f) where
  len := by rw [List.length_map, h.len]
  wid := fun r hr => by obtain ⟨q, hq, rfl⟩ := List.mem_map.1 hr; exact hw q (h.wid q hq)
  byt := fun r hr x hx => by obtain ⟨q, hq, rfl⟩ := List.mem_map.1 hr; exact h.byt q hq x (hb q x hx)
theorem RowsOk.left {n w k : Nat} {L : List (List Nat)} (h : RowsOk n w L) (hk : k ≤ w) : RowsOk n k (L.map (List.take k)) := h.part (fun r hr => by rw [List.length_take]; omega) fun r x hx => List.mem_of_mem_take hx
theorem RowsOk.right {n w k : Nat} {L : List (List Nat)} (h : RowsOk n w L) (k : Nat) : RowsOk n (w - k) (L.map (List.drop k)) := h.part (fun r hr => by rw [List.length_drop]; omega) fun r x hx => List.mem_of_mem_drop hx
theorem cel_left {L : List (List Nat)} {k i j : Nat} (hj : j < k) : cel (L.map (List.take k)) i j = cel L i j := by
  rw [cel, rw_map List.take_nil, cel, List.getD_eq_getElem?_getD, List.getD_eq_getElem?_getD, List.getElem?_take_of_lt hj]
theorem elim_part {f : List Nat → List Nat} (h : Part f) {L : List (List Nat)} {c i y : Nat} : (L.map f).set i (addR (rw' (L.map f) i) (rw' (L.map f) c) y) = (L.set i (addR (rw' L i) (rw' L c) y)).map f := by
  rw [rw_map h.nil, rw_map h.nil, List.map_set, h.add]
theorem scl_part {f : List Nat → List Nat} (h : Part f) {L : List (List Nat)} {c x : Nat} : (L.map f).set c (sclR x (rw' (L.map f) c)) = (L.set c (sclR x (rw' L c))).map f := by
  rw [rw_map h.nil, List.map_set, h.scl]
def augR (k : Nat) (M : List (List Nat)) : List (List Nat) := (List.range k).map fun i => rw' M i ++ unitR i k
theorem unitR_byte (i k : Nat) : ∀ x ∈ unitR i k, x < 256 := fun x hx => by
  rcases List.mem_or_eq_of_mem_set hx with h | h
  · rw [List.eq_of_mem_replicate h]; decide
  · rw [h]; decide
theorem augR_ok {k : Nat} {M : List (List Nat)} (h : RowsOk k k M) : RowsOk k (2 * k) (augR k M) where
  len := by simp [augR]
  wid := fun r hr => by
    obtain ⟨i, hi, rfl⟩ := List.mem_map.1 hr
    rw [List.length_append, h.rl (List.mem_range.1 hi), unitR_len]; omega
  byt := fun r hr x hx => by
    obtain ⟨i, hi, rfl⟩ := List.mem_map.1 hr
    rcases List.mem_append.1 hx with h1 | h1
    · exact h.rb (List.mem_range.1 hi) x h1
    · exact unitR_byte i k x h1
theorem augR_left {k : Nat} {M : List (List Nat)} (h : RowsOk k k M) : (augR k M).map (List.take k) = M := by
  refine List.ext_getElem (by simp [augR, h.len]) fun i h1 h2 => ?_
  have hi : i < k := by simpa [augR] using h1
  have hl := h.rl hi
  simp only [augR, List.getElem_map, List.getElem_range]
  rw [List.take_left' hl, rw', getD_lt (by rw [h.len]; exact hi)]
theorem augR_right {k : Nat} {M : List (List Nat)} (h : RowsOk k k M) : (augR k M).map (List.drop k) = (List.range k).map fun i => unitR i k := by
  refine List.ext_getElem (by simp [augR]) fun i h1 h2 => ?_
  have hi : i < k := by simpa [augR] using h1
  have hl := h.rl hi
  simp only [augR, List.getElem_map, List.getElem_range]
  rw [List.drop_left' hl]
theorem aug_ns {k : Nat} {M : List (List Nat)} (h : RowsOk k k M) (hn : NSR k k (cel M)) : NSR k k (cel (augR k M)) := hn.congr fun i hi j hj => by
  conv => lhs; rw [← augR_left h]
  exact cel_left hj
def invM (k : Nat) (M : List (List Nat)) : List (List Nat) := (gzR (augR k M) k).map (List.drop k)
theorem gzI {k : Nat} {M : List (List Nat)} (h : RowsOk k k M) (hn : NSR k k (cel M)) (c : Nat) (hc : c ≤ k) : GzI k (2 * k) (gzR (augR k M) c) c := gzR_ok (augR_ok h) (aug_ns h hn) c hc
theorem invM_ok {k : Nat} {M : List (List Nat)} (h : RowsOk k k M) (hn : NSR k k (cel M)) : RowsOk k k (invM k M) := by
  have := (gzI h hn k (Nat.le_refl k)).ok.right (k := k) k
  rw [show 2 * k - k = k by omega] at this
  exact this
theorem rowC_byte {k i : Nat} (hk : k ≤ 8) (hi : i < 16) : ∀ x ∈ rowC k i, x < 256 := fun x hx => by
  unfold rowC at hx
  split at hx
  · exact unitR_byte i k x hx
  · obtain ⟨j, hj, rfl⟩ := List.mem_map.1 hx
    exact invN_lt (xor256 (by omega) (by have := List.mem_range.1 hj; omega))
end Go.Proofs.YthdejoipdgahiaaGreatDoor
namespace Go.Proofs.YthdejoipdgahiaaGreatDoor
open Go.RowKit
set_option linter.unusedSimpArgs false
set_option linter.unusedVariables false
set_option maxRecDepth 100000
theorem within_c (a b c : Int) : Fun1 Tryz.prog 51 [.one (.lit (.int .i64 a)), .one (.lit (.int .i64 b)), .one (.lit (.int .i64 c))] (.one (.lit (.bool (decide (b ≤ a) && decide (a ≤ c))))) := by
  refine fun1_of_vc tb_ok mix (fn := Tryz.f51) Tryz.func51 rfl (by kernel_rfl) (by kernel_rfl) (by simp [Tryz.f51]) (by rfl) ?_
  (conv => whnf)
  (repeat' (split <;> rename_i hb <;> (try simp only [decide_eq_true_eq, decide_eq_false_iff_not, Bool.not_eq_true', Bool.not_eq_false', Bool.not_eq_true, Bool.not_eq_false, List.length_map] at hb) <;> conv => whnf))
  all_goals exact ⟨close_bool (by simp [*]), trivial⟩
theorem long_c (s : ByteArray) : Fun1 Tryz.prog 82 [.one (.lit (.string s))] (.one (.lit (.int .i64 (s.size : Nat)))) := by
  refine fun1_of_vc tb_ok mix (fn := Tryz.f82) Tryz.func82 rfl (by kernel_rfl) (by kernel_rfl) (by simp [Tryz.f82]) (by rfl) ?_
  (conv => whnf)
  exact (by repeat' (first | exact trivial | exact close_int rfl | exact close_str rfl | exact close_bool rfl | exact close_int (by omega) | exact close_row rfl rfl (by first | rfl | simp) (by first | rfl | simp) | exact close_nil (by first | rfl | simp) | exact rfl | apply And.intro | apply closeTs_cons rfl))
theorem isLong_c (s : ByteArray) : Fun1 Tryz.prog 22 [.one (.lit (.string s))] (.one (.lit (.bool (decide (20000 < (s.size : Int)))))) := by
  refine fun1_of_vc tb_ok mix (fn := Tryz.f22) Tryz.func22 rfl (by kernel_rfl) (by kernel_rfl) (by simp [Tryz.f22]) (by rfl) ?_
  (conv => whnf)
  exact (by repeat' (first | exact trivial | exact close_int rfl | exact close_str rfl | exact close_bool rfl | exact close_int (by omega) | exact close_row rfl rfl (by first | rfl | simp) (by first | rfl | simp) | exact close_nil (by first | rfl | simp) | exact rfl | apply And.intro | apply closeTs_cons rfl))
theorem l02Byte_c (a : Int) : Fun1 Tryz.prog 146 [.one (.lit (.int .i64 a))] (.one (.lit (.bool (decide (0 ≤ a) && decide (a ≤ 255))))) := by
  refine fun1_of_vc tb_ok mix (fn := Tryz.f146) Tryz.func146 rfl (by kernel_rfl) (by kernel_rfl) (by simp [Tryz.f146]) (by rfl) ?_
  (conv => whnf)
  (repeat' (split <;> rename_i hb <;> (try simp only [decide_eq_true_eq, decide_eq_false_iff_not, Bool.not_eq_true', Bool.not_eq_false', Bool.not_eq_true, Bool.not_eq_false, List.length_map] at hb) <;> conv => whnf))
  all_goals exact ⟨close_bool (by simp [*]), trivial⟩
theorem nameSpec_c (s : ByteArray) (hs : s.size ≤ 4294967296) : Fun1 Tryz.prog 40 [.one (.lit (.string s))] (.one (.lit (.bool (nameOk s 80)))) := by
  refine fun1_of_vc tb_ok mix (fn := Tryz.f40) Tryz.func40 rfl (by kernel_rfl) (by kernel_rfl) (by simp [Tryz.f40]) (by rfl) ?_
  (conv => whnf)
  (repeat' (split <;> rename_i hb <;> (try simp only [decide_eq_true_eq, decide_eq_false_iff_not, Bool.not_eq_true', Bool.not_eq_false', Bool.not_eq_true, Bool.not_eq_false, List.length_map] at hb) <;> conv => whnf))
  · exact ⟨close_bool (by simp [nameOk]; omega), trivial⟩
  · exact ⟨close_bool (by simp [nameOk]; omega), trivial⟩
  rename_i hb1 _ hb2
  refine ⟨LG (fun i : Nat => i ≤ s.size ∧ ∀ j, j < i → nmAt s j = true) (fun i => s.size - i) (fun i => AS.of [(0, .one (.lit (.string s))), (3, .one (.lit (.int .i64 (i : Nat))))] []), lg_init 0 ⟨by omega, fun j h => by omega⟩ (weak_of allsA allsA rfl rfl), ?_⟩
  rintro σ k ⟨i, ⟨hi, hc⟩, rfl, rfl⟩
  refine ⟨_, Weak.refl _, ?_⟩
  (conv => whnf)
  (split <;> rename_i h <;> (try simp only [decide_eq_true_eq, decide_eq_false_iff_not, Bool.not_eq_true', Bool.not_eq_false', Bool.not_eq_true, Bool.not_eq_false, List.length_map] at h) <;> conv => whnf)
  · refine ⟨i, rfl, by omega, ?_⟩; (conv => whnf)
    (repeat' (split <;> rename_i hb <;> (try simp only [decide_eq_true_eq, decide_eq_false_iff_not, Bool.not_eq_true', Bool.not_eq_false', Bool.not_eq_true, Bool.not_eq_false, List.length_map] at hb) <;> conv => whnf))
    all_goals first
      | (refine ⟨close_bool ?_, trivial⟩; have hn : nmAt s i = false := nmAt_f (by omega); simp only [nameOk, range_all_false (p := nmAt s) (n := s.size) (j := i) (by omega) hn, Bool.false_and]; done)
      | ((refine ⟨((i + 1 : Nat) : Int), by rw [← wrap64_id] <;> omega, ?_⟩; conv => whnf); exact lg_back (i + 1) ⟨by omega, fun j hj => by
          by_cases e : j = i
          · subst e; exact nmAt_t (by omega)
          · exact hc j (by omega)⟩ (by (try dsimp only); omega) (weak_of allsA allsA rfl rfl))
  · have : i = s.size := by omega
    subst this
    exact ⟨close_bool (by simp [nameOk, range_all_true hc]; omega), trivial⟩
theorem isName_c (s : ByteArray) (most : Int) (hs : s.size ≤ 4294967296) : Fun1 Tryz.prog 52 [.one (.lit (.string s)), .one (.lit (.int .i64 most))] (.one (.lit (.bool (nameOk s most)))) := by
  refine fun1_of_vc tb_ok mix (fn := Tryz.f52) Tryz.func52 rfl (by kernel_rfl) (by kernel_rfl) (by simp [Tryz.f52]) (by rfl) ?_
  (conv => whnf)
  refine ⟨LG (fun i : Nat => i ≤ s.size ∧ ∀ j, j < i → nmAt s j = true) (fun i => s.size - i) (fun i => AS.of [(0, .one (.lit (.string s))), (1, .one (.lit (.int .i64 most))), (8, .one (.lit (.int .i64 (s.size : Nat)))), (9, .one (.lit (.int .i64 (i : Nat))))] []), lg_init 0 ⟨by omega, fun j h => by omega⟩ (weak_of allsA allsA rfl rfl), ?_⟩
  rintro σ k ⟨i, ⟨hi, hc⟩, rfl, rfl⟩
  refine ⟨_, Weak.refl _, ?_⟩
  (conv => whnf)
  (split <;> rename_i h <;> (try simp only [decide_eq_true_eq, decide_eq_false_iff_not, Bool.not_eq_true', Bool.not_eq_false', Bool.not_eq_true, Bool.not_eq_false, List.length_map] at h) <;> conv => whnf)
  · refine ⟨i, rfl, by omega, ?_⟩; (conv => whnf)
    (repeat' (split <;> rename_i hb <;> (try simp only [decide_eq_true_eq, decide_eq_false_iff_not, Bool.not_eq_true', Bool.not_eq_false', Bool.not_eq_true, Bool.not_eq_false, List.length_map] at hb) <;> conv => whnf))
    all_goals first
      | (refine ⟨close_bool ?_, trivial⟩; have hn : nmAt s i = false := nmAt_f (by omega); simp only [nameOk, range_all_false (p := nmAt s) (n := s.size) (j := i) (by omega) hn, Bool.false_and]; done)
      | ((refine ⟨((i + 1 : Nat) : Int), by rw [← wrap64_id] <;> omega, ?_⟩; conv => whnf); exact lg_back (i + 1) ⟨by omega, fun j hj => by
          by_cases e : j = i
          · subst e; exact nmAt_t (by omega)
          · exact hc j (by omega)⟩ (by (try dsimp only); omega) (weak_of allsA allsA rfl rfl))
  · have : i = s.size := by omega
    subst this
    refine ⟨_, _, long_c s, lendA, ?_⟩; (conv => whnf)
    refine ⟨_, _, within_c s.size 1 most, lendA, ?_⟩; (conv => whnf)
    exact ⟨close_bool (by simp [nameOk, range_all_true hc]), trivial⟩
theorem nameImpl_c (s : ByteArray) (hs : s.size ≤ 4294967296) : Fun1 Tryz.prog 81 [.one (.lit (.string s))] (.one (.lit (.bool (nameOk s 80)))) := by
  refine fun1_of_vc tb_ok mix (fn := Tryz.f81) Tryz.func81 rfl (by kernel_rfl) (by kernel_rfl) (by simp [Tryz.f81]) (by rfl) ?_
  (conv => whnf)
  refine ⟨_, _, isName_c s 80 hs, lendA, ?_⟩; (conv => whnf)
  exact (by repeat' (first | exact trivial | exact close_int rfl | exact close_str rfl | exact close_bool rfl | exact close_int (by omega) | exact close_row rfl rfl (by first | rfl | simp) (by first | rfl | simp) | exact close_nil (by first | rfl | simp) | exact rfl | apply And.intro | apply closeTs_cons rfl))
end Go.Proofs.YthdejoipdgahiaaGreatDoor
namespace Go.Proofs.YthdejoipdgahiaaGreatDoor
open Go.RowKit
set_option linter.unusedSimpArgs false
set_option linter.unusedVariables false
set_option maxRecDepth 100000
abbrev vN (n : Nat) : AV := .lit (.int .i64 (n : Int))
def mulI (R : Nat) (p : Nat × Nat × Nat × Nat) : Prop := p.2.2.1 < 2 ^ p.1 ∧ p.2.1 < 256 ∧ p.2.2.1 < 256 ∧ p.2.2.2 < 256 ∧ mulG p.1 p.2.1 p.2.2.1 p.2.2.2 = R
theorem mulI_step {R n x y o : Nat} (h : mulI R (n, x, y, o)) (hy : 0 < y) : ∃ m, n = m + 1 ∧ mulI R (m, dblN x, y / 2, if y % 2 = 1 then o ^^^ x else o) := by
  obtain ⟨h1, h2, h3, h4, h5⟩ := h
  simp only at h1 h2 h3 h4 h5
  cases n with
  | zero => simp at h1; omega
  | succ m =>
    refine ⟨m, rfl, by show y / 2 < 2 ^ m; rw [Nat.pow_succ] at h1; omega, dblN_lt h2, by show y / 2 < 256; omega, ?_, h5⟩
    show (if y % 2 = 1 then o ^^^ x else o) < 256
    split
    · exact xor256 h4 h2
    · exact h4
theorem mulI_end {R n x o : Nat} (h : mulI R (n, x, 0, o)) : o = R := by
  obtain ⟨_, _, _, _, h5⟩ := h
  rw [← h5]; exact (mulG_zero _ _ _).symm
theorem shl1N {x : Nat} (h : x < 4611686018427387904) : IntKind.i64.wrap ((x : Int) * 2 ^ (min (Int.toNat 1) 64)) = ((2 * x : Nat) : Int) := by
  rw [show ((x : Int) * 2 ^ (min (Int.toNat 1) 64)) = ((2 * x : Nat) : Int) by simp; omega]; exact wrapN (by omega)
theorem shr1N (x : Nat) : (x : Int).fdiv (2 ^ (min (Int.toNat 1) 64)) = ((x / 2 : Nat) : Int) := by
  rw [show ((2 : Int) ^ (min (Int.toNat 1) 64)) = 2 by decide, Int.fdiv_eq_ediv_of_nonneg _ (by omega)]; omega
theorem mulImpl_c {a b : Nat} (ha : a < 256) (hb : b < 256) : Fun1 Tryz.prog 124 [.one (vN a), .one (vN b)] (.one (vN (mulN a b))) := by
  refine fun1_of_vc tb_ok mix (fn := Tryz.f124) Tryz.func124 rfl (by kernel_rfl) (by kernel_rfl) (by simp [Tryz.f124]) (by rfl) ?_
  (conv => whnf)
  refine ⟨LG (mulI (mulN a b)) (fun p => p.2.2.1) (fun p => AS.of [(0, .one (vN p.2.1)), (1, .one (vN p.2.2.1)), (5, .one (vN p.2.2.2))] []), lg_init (8, a, b, 0) ⟨by show b < 2 ^ 8; omega, ha, hb, by show (0 : Nat) < 256; decide, rfl⟩ (weak_of allsA allsA rfl rfl), ?_⟩
  rintro σ k ⟨⟨n, x, y, o⟩, hI, hk, rfl⟩
  have ⟨h1, h2, h3, h4, h5⟩ := hI
  simp only at h1 h2 h3 h4 h5 hk
  refine ⟨_, Weak.refl _, ?_⟩
  (conv => whnf)
  (split <;> rename_i h <;> (try simp only [decide_eq_true_eq, decide_eq_false_iff_not, Bool.not_eq_true', Bool.not_eq_false', Bool.not_eq_true, Bool.not_eq_false, List.length_map] at h) <;> conv => whnf)
  · obtain ⟨m, rfl, hI'⟩ := mulI_step hI (by omega)
    have hand := and1N (b := y) (by omega)
    have key : ∀ σ' : AS, ∀ o' : Nat, o' = (if y % 2 = 1 then o ^^^ x else o) → Weak σ' (AS.of [(0, .one (vN (dblN x))), (1, .one (vN (y / 2))), (5, .one (vN o'))] []) → ∃ σ1 k', Weak σ' σ1 ∧ k' < k ∧ LG (mulI (mulN a b)) (fun p => p.2.2.1) (fun p => AS.of [(0, .one (vN p.2.1)), (1, .one (vN p.2.2.1)), (5, .one (vN p.2.2.2))] []) σ1 k' := by
      rintro σ' _ rfl hw
      exact lg_back (m, dblN x, y / 2, if y % 2 = 1 then o ^^^ x else o) hI' (by show y / 2 < k; omega) hw
    (split <;> rename_i h6 <;> (try simp only [decide_eq_true_eq, decide_eq_false_iff_not, Bool.not_eq_true', Bool.not_eq_false', Bool.not_eq_true, Bool.not_eq_false, List.length_map] at h6) <;> conv => whnf) <;> (refine ⟨by decide, _, (shl1N (x := x) (by omega)).symm, ?_⟩; (conv => whnf)) <;> (split <;> rename_i h7 <;> (try simp only [decide_eq_true_eq, decide_eq_false_iff_not, Bool.not_eq_true', Bool.not_eq_false', Bool.not_eq_true, Bool.not_eq_false, List.length_map] at h7) <;> conv => whnf) <;> (refine ⟨by decide, _, (shr1N y).symm, ?_⟩; (conv => whnf))
    all_goals rw [hand] at h6
    · exact key _ (o ^^^ x) (by rw [if_pos (by omega)]) (weak_of (all_cons (eq_int rfl (by rw [show (285 : Int) = ((285 : Nat) : Int) from rfl, xorN (by (try dsimp only); omega) (by (try dsimp only); omega), dblN, if_pos (by omega)])) (all_cons rfl (all_cons (eq_int rfl (xorN (by (try dsimp only); omega) (by (try dsimp only); omega))) all_nil))) all_nil rfl rfl)
    · exact key _ (o ^^^ x) (by rw [if_pos (by omega)]) (weak_of (all_cons (eq_int rfl (by rw [dblN, if_neg (by omega)])) (all_cons rfl (all_cons (eq_int rfl (xorN (by (try dsimp only); omega) (by (try dsimp only); omega))) all_nil))) all_nil rfl rfl)
    · exact key _ o (by rw [if_neg (by omega)]) (weak_of (all_cons (eq_int rfl (by rw [show (285 : Int) = ((285 : Nat) : Int) from rfl, xorN (by (try dsimp only); omega) (by (try dsimp only); omega), dblN, if_pos (by omega)])) (all_cons rfl (all_cons rfl all_nil))) all_nil rfl rfl)
    · exact key _ o (by rw [if_neg (by omega)]) (weak_of (all_cons (eq_int rfl (by rw [dblN, if_neg (by omega)])) (all_cons rfl (all_cons rfl all_nil))) all_nil rfl rfl)
  · obtain rfl : y = 0 := by omega
    exact ⟨close_int (by rw [mulI_end hI]), trivial⟩
theorem tmod2N (y : Nat) : ((y % 2 : Nat) : Int) = (y : Int).tmod 2 := by rw [Int.tmod_eq_emod_of_nonneg (by omega)]; omega
theorem tdiv2N {y : Nat} (h : y < 9223372036854775808) : ((y / 2 : Nat) : Int) = IntKind.i64.wrap ((y : Int).tdiv 2) := by
  rw [show (y : Int).tdiv 2 = ((y / 2 : Nat) : Int) by rw [Int.tdiv_eq_ediv_of_nonneg (by omega)]; omega]
  exact (wrapN (by omega)).symm
theorem mul2N {x : Nat} (h : x < 4611686018427387904) : ((2 * x : Nat) : Int) = IntKind.i64.wrap (2 * (x : Int)) := by
  rw [show (2 * (x : Int)) = ((2 * x : Nat) : Int) by omega]; exact (wrapN (by omega)).symm
theorem mulSpec_c {a b : Nat} (ha : a < 256) (hb : b < 256) : Fun1 Tryz.prog 113 [.one (vN a), .one (vN b)] (.one (vN (mulN a b))) := by
  refine fun1_of_vc tb_ok mix (fn := Tryz.f113) Tryz.func113 rfl (by kernel_rfl) (by kernel_rfl) (by simp [Tryz.f113]) (by rfl) ?_
  (conv => whnf)
  refine ⟨LG (mulI (mulN a b)) (fun p => p.2.2.1) (fun p => AS.of [(0, .one (vN p.2.1)), (1, .one (vN p.2.2.1)), (5, .one (vN p.2.2.2))] []), lg_init (8, a, b, 0) ⟨by show b < 2 ^ 8; omega, ha, hb, by show (0 : Nat) < 256; decide, rfl⟩ (weak_of allsA allsA rfl rfl), ?_⟩
  rintro σ k ⟨⟨n, x, y, o⟩, hI, hk, rfl⟩
  have ⟨h1, h2, h3, h4, h5⟩ := hI
  simp only at h1 h2 h3 h4 h5 hk
  refine ⟨_, Weak.refl _, ?_⟩
  (conv => whnf)
  (split <;> rename_i h <;> (try simp only [decide_eq_true_eq, decide_eq_false_iff_not, Bool.not_eq_true', Bool.not_eq_false', Bool.not_eq_true, Bool.not_eq_false, List.length_map] at h) <;> conv => whnf)
  · obtain ⟨m, rfl, hI'⟩ := mulI_step hI (by omega)
    have key : ∀ σ' : AS, ∀ o' : Nat, o' = (if y % 2 = 1 then o ^^^ x else o) → Weak σ' (AS.of [(0, .one (vN (dblN x))), (1, .one (vN (y / 2))), (5, .one (vN o'))] []) → ∃ σ1 k', Weak σ' σ1 ∧ k' < k ∧ LG (mulI (mulN a b)) (fun p => p.2.2.1) (fun p => AS.of [(0, .one (vN p.2.1)), (1, .one (vN p.2.2.1)), (5, .one (vN p.2.2.2))] []) σ1 k' := by
      rintro σ' _ rfl hw
      exact lg_back (m, dblN x, y / 2, if y % 2 = 1 then o ^^^ x else o) hI' (by show y / 2 < k; omega) hw
    refine ⟨by decide, _, tmod2N y, ?_⟩; (conv => whnf)
    (split <;> rename_i h6 <;> (try simp only [decide_eq_true_eq, decide_eq_false_iff_not, Bool.not_eq_true', Bool.not_eq_false', Bool.not_eq_true, Bool.not_eq_false, List.length_map] at h6) <;> conv => whnf) <;> (refine ⟨_, mul2N (x := x) (by omega), ?_⟩; (conv => whnf)) <;> (split <;> rename_i h7 <;> (try simp only [decide_eq_true_eq, decide_eq_false_iff_not, Bool.not_eq_true', Bool.not_eq_false', Bool.not_eq_true, Bool.not_eq_false, List.length_map] at h7) <;> conv => whnf) <;> (refine ⟨by decide, _, tdiv2N (y := y) (by omega), ?_⟩; (conv => whnf))
    · exact key _ (o ^^^ x) (by rw [if_pos (by omega)]) (weak_of (all_cons (eq_int rfl (by rw [show (285 : Int) = ((285 : Nat) : Int) from rfl, xorN (by (try dsimp only); omega) (by (try dsimp only); omega), dblN, if_pos (by omega)])) (all_cons rfl (all_cons (eq_int rfl (xorN (by (try dsimp only); omega) (by (try dsimp only); omega))) all_nil))) all_nil rfl rfl)
    · exact key _ (o ^^^ x) (by rw [if_pos (by omega)]) (weak_of (all_cons (eq_int rfl (by rw [dblN, if_neg (by omega)])) (all_cons rfl (all_cons (eq_int rfl (xorN (by (try dsimp only); omega) (by (try dsimp only); omega))) all_nil))) all_nil rfl rfl)
    · exact key _ o (by rw [if_neg (by omega)]) (weak_of (all_cons (eq_int rfl (by rw [show (285 : Int) = ((285 : Nat) : Int) from rfl, xorN (by (try dsimp only); omega) (by (try dsimp only); omega), dblN, if_pos (by omega)])) (all_cons rfl (all_cons rfl all_nil))) all_nil rfl rfl)
    · exact key _ o (by rw [if_neg (by omega)]) (weak_of (all_cons (eq_int rfl (by rw [dblN, if_neg (by omega)])) (all_cons rfl (all_cons rfl all_nil))) all_nil rfl rfl)
  · obtain rfl : y = 0 := by omega
    exact ⟨close_int (by rw [mulI_end hI]), trivial⟩
def powI (R : Nat) (p : Nat × Nat × Nat × Nat) : Prop := p.2.2.1 < 2 ^ p.1 ∧ p.2.1 < 256 ∧ p.2.2.1 < 2147483649 ∧ p.2.2.2 < 256 ∧ powG p.1 p.2.1 p.2.2.1 p.2.2.2 = R
theorem powI_step {R n x y o : Nat} (h : powI R (n, x, y, o)) (hy : 0 < y) : ∃ m, n = m + 1 ∧ powI R (m, mulN x x, y / 2, if y % 2 = 1 then mulN o x else o) := by
  obtain ⟨h1, h2, h3, h4, h5⟩ := h
  simp only at h1 h2 h3 h4 h5
  cases n with
  | zero => simp at h1; omega
  | succ m =>
    refine ⟨m, rfl, by show y / 2 < 2 ^ m; rw [Nat.pow_succ] at h1; omega, mulN_lt h2, by show y / 2 < 2147483649; omega, ?_, h5⟩
    show (if y % 2 = 1 then mulN o x else o) < 256
    split
    · exact mulN_lt h4
    · exact h4
theorem powI_end {R n x o : Nat} (h : powI R (n, x, 0, o)) : o = R := by
  obtain ⟨_, _, _, _, h5⟩ := h
  rw [← h5]; exact (powG_zero _ _ _).symm
theorem powImpl_c (n0 : Nat) {a b : Nat} (ha : a < 256) (hb : b < 2147483649) (hn : b < 2 ^ n0) : Fun1 Tryz.prog 151 [.one (vN a), .one (vN b)] (.one (vN (powG n0 a b 1))) := by
  refine fun1_of_vc tb_ok mix (fn := Tryz.f151) Tryz.func151 rfl (by kernel_rfl) (by kernel_rfl) (by simp [Tryz.f151]) (by rfl) ?_
  (conv => whnf)
  refine ⟨LG (powI (powG n0 a b 1)) (fun p => p.2.2.1) (fun p => AS.of [(0, .one (vN p.2.1)), (1, .one (vN p.2.2.1)), (5, .one (vN p.2.2.2))] []), lg_init (n0, a, b, 1) ⟨hn, ha, hb, by show (1 : Nat) < 256; decide, rfl⟩ (weak_of allsA allsA rfl rfl), ?_⟩
  rintro σ k ⟨⟨n, x, y, o⟩, hI, hk, rfl⟩
  have ⟨h1, h2, h3, h4, h5⟩ := hI
  simp only at h1 h2 h3 h4 h5 hk
  refine ⟨_, Weak.refl _, ?_⟩
  (conv => whnf)
  (split <;> rename_i h <;> (try simp only [decide_eq_true_eq, decide_eq_false_iff_not, Bool.not_eq_true', Bool.not_eq_false', Bool.not_eq_true, Bool.not_eq_false, List.length_map] at h) <;> conv => whnf)
  · obtain ⟨m, rfl, hI'⟩ := powI_step hI (by omega)
    have hand := and1N (b := y) (by omega)
    (split <;> rename_i h6 <;> (try simp only [decide_eq_true_eq, decide_eq_false_iff_not, Bool.not_eq_true', Bool.not_eq_false', Bool.not_eq_true, Bool.not_eq_false, List.length_map] at h6) <;> conv => whnf) <;> rw [hand] at h6
    · rw [if_pos (by omega)] at hI'
      refine ⟨_, _, mulImpl_c h4 h2, lendA, ?_⟩; (conv => whnf)
      refine ⟨_, _, mulImpl_c h2 h2, lendA, ?_⟩; (conv => whnf)
      refine ⟨by decide, _, (shr1N y).symm, ?_⟩; (conv => whnf)
      exact lg_back (m, mulN x x, y / 2, mulN o x) hI' (by show y / 2 < k; omega) (weak_of allsA allsA rfl rfl)
    · rw [if_neg (by omega)] at hI'
      refine ⟨_, _, mulImpl_c h2 h2, lendA, ?_⟩; (conv => whnf)
      refine ⟨by decide, _, (shr1N y).symm, ?_⟩; (conv => whnf)
      exact lg_back (m, mulN x x, y / 2, o) hI' (by show y / 2 < k; omega) (weak_of allsA allsA rfl rfl)
  · obtain rfl : y = 0 := by omega
    exact ⟨close_int (by rw [powI_end hI]), trivial⟩
theorem powSpec_c (n0 : Nat) {a b : Nat} (ha : a < 256) (hb : b < 2147483649) (hn : b < 2 ^ n0) : Fun1 Tryz.prog 147 [.one (vN a), .one (vN b)] (.one (vN (powG n0 a b 1))) := by
  refine fun1_of_vc tb_ok mix (fn := Tryz.f147) Tryz.func147 rfl (by kernel_rfl) (by kernel_rfl) (by simp [Tryz.f147]) (by rfl) ?_
  (conv => whnf)
  refine ⟨LG (powI (powG n0 a b 1)) (fun p => p.2.2.1) (fun p => AS.of [(0, .one (vN p.2.1)), (1, .one (vN p.2.2.1)), (5, .one (vN p.2.2.2))] []), lg_init (n0, a, b, 1) ⟨hn, ha, hb, by show (1 : Nat) < 256; decide, rfl⟩ (weak_of allsA allsA rfl rfl), ?_⟩
  rintro σ k ⟨⟨n, x, y, o⟩, hI, hk, rfl⟩
  have ⟨h1, h2, h3, h4, h5⟩ := hI
  simp only at h1 h2 h3 h4 h5 hk
  refine ⟨_, Weak.refl _, ?_⟩
  (conv => whnf)
  (split <;> rename_i h <;> (try simp only [decide_eq_true_eq, decide_eq_false_iff_not, Bool.not_eq_true', Bool.not_eq_false', Bool.not_eq_true, Bool.not_eq_false, List.length_map] at h) <;> conv => whnf)
  · obtain ⟨m, rfl, hI'⟩ := powI_step hI (by omega)
    refine ⟨by decide, _, tmod2N y, ?_⟩; (conv => whnf)
    (split <;> rename_i h6 <;> (try simp only [decide_eq_true_eq, decide_eq_false_iff_not, Bool.not_eq_true', Bool.not_eq_false', Bool.not_eq_true, Bool.not_eq_false, List.length_map] at h6) <;> conv => whnf)
    · rw [if_pos (by omega)] at hI'
      refine ⟨_, _, mulSpec_c h4 h2, lendA, ?_⟩; (conv => whnf)
      refine ⟨_, _, mulSpec_c h2 h2, lendA, ?_⟩; (conv => whnf)
      refine ⟨by decide, _, tdiv2N (y := y) (by omega), ?_⟩; (conv => whnf)
      exact lg_back (m, mulN x x, y / 2, mulN o x) hI' (by show y / 2 < k; omega) (weak_of allsA allsA rfl rfl)
    · rw [if_neg (by omega)] at hI'
      refine ⟨_, _, mulSpec_c h2 h2, lendA, ?_⟩; (conv => whnf)
      refine ⟨by decide, _, tdiv2N (y := y) (by omega), ?_⟩; (conv => whnf)
      exact lg_back (m, mulN x x, y / 2, o) hI' (by show y / 2 < k; omega) (weak_of allsA allsA rfl rfl)
  · obtain rfl : y = 0 := by omega
    exact ⟨close_int (by rw [powI_end hI]), trivial⟩
theorem invImpl_c {a : Nat} (ha : a < 256) : Fun1 Tryz.prog 126 [.one (vN a)] (.one (vN (invN a))) := by
  refine fun1_of_vc tb_ok mix (fn := Tryz.f126) Tryz.func126 rfl (by kernel_rfl) (by kernel_rfl) (by simp [Tryz.f126]) (by rfl) ?_
  (conv => whnf)
  refine ⟨_, _, powImpl_c 8 ha (by decide : 254 < 2147483649) (by decide), lendA, ?_⟩; (conv => whnf)
  exact ⟨close_int rfl, trivial⟩
theorem fieldInv_c {a : Nat} (ha : a < 256) : Fun1 Tryz.prog 116 [.one (vN a)] (.one (vN (invN a))) := by
  refine fun1_of_vc tb_ok mix (fn := Tryz.f116) Tryz.func116 rfl (by kernel_rfl) (by kernel_rfl) (by simp [Tryz.f116]) (by rfl) ?_
  (conv => whnf)
  refine ⟨_, _, l02Byte_c a, lendA, ?_⟩
  rw [show (decide ((0 : Int) ≤ (a : Int)) && decide ((a : Int) ≤ 255)) = true by simp; omega]
  (conv => whnf)
  (split <;> rename_i h <;> (try simp only [decide_eq_true_eq, decide_eq_false_iff_not, Bool.not_eq_true', Bool.not_eq_false', Bool.not_eq_true, Bool.not_eq_false, List.length_map] at h) <;> conv => whnf)
  · obtain rfl : a = 0 := by omega
    exact ⟨close_int (by rw [invN_zero]; rfl), trivial⟩
  · refine ⟨_, _, powSpec_c 8 ha (by decide : 254 < 2147483649) (by decide), lendA, ?_⟩; (conv => whnf)
    exact ⟨close_int rfl, trivial⟩
end Go.Proofs.YthdejoipdgahiaaGreatDoor
namespace Go.Proofs.YthdejoipdgahiaaGreatDoor
open Go.RowKit
set_option linter.unusedSimpArgs false
set_option linter.unusedVariables false
set_option maxRecDepth 100000
theorem fOk_f {fs : List DStored} {i : Nat} (hi : i < fs.length) (h : ¬ (nameOk fs[i].name 80 = true ∧ (i = 0 ∨ sless (fs[i - 1]'(by omega)).name fs[i].name = true) ∧ fs[i].text.size ≤ 20000 ∧ 0 ≤ fs[i].synced ∧ fs[i].synced ≤ (fs[i].text.size : Int))) : fOk fs i = false := by
  rw [fOk_eq hi, Bool.eq_false_iff]; intro e; apply h
  simp only [Bool.and_eq_true, Bool.or_eq_true, decide_eq_true_eq, bLt] at e
  obtain ⟨⟨⟨⟨e1, e2⟩, e3⟩, e4⟩, e5⟩ := e
  exact ⟨e1, e2, e3, e4, e5⟩
theorem fOk_t {fs : List DStored} {i : Nat} (hi : i < fs.length) (h : nameOk fs[i].name 80 = true ∧ (i = 0 ∨ sless (fs[i - 1]'(by omega)).name fs[i].name = true) ∧ fs[i].text.size ≤ 20000 ∧ 0 ≤ fs[i].synced ∧ fs[i].synced ≤ (fs[i].text.size : Int)) : fOk fs i = true := by
  rw [fOk_eq hi]
  simp only [Bool.and_eq_true, Bool.or_eq_true, decide_eq_true_eq, bLt]
  exact ⟨⟨⟨⟨h.1, h.2.1⟩, h.2.2.1⟩, h.2.2.2.1⟩, h.2.2.2.2⟩
theorem driveOk_ff {d : DDrive} {i : Nat} (hi : i < d.files.length) (h : fOk d.files i = false) : driveOk d = false := by
  simp [driveOk, filesOk, range_all_false hi h]
theorem driveOk_end {d : DDrive} (h1 : d.files.length ≤ 60) (h2 : 0 ≤ d.room) (h3 : d.room ≤ 100000) (h4 : ∀ j, j < d.files.length → fOk d.files j = true) : driveOk d = decide ((usedN d.files : Int) ≤ d.room) := by
  simp [driveOk, filesOk, range_all_true h4, h1, h2, h3]
theorem usedImpl_c (x : DDrive) (hx : x.ok) (hu : usedN x.files ≤ 1000000000000) : Fun1 Tryz.prog 83 [.agg x.enc] (.one (.lit (.int .i64 (usedN x.files : Nat)))) := by
  obtain ⟨⟨hl, hf⟩, hr⟩ := hx
  refine fun1_of_vc tb_ok mix (fn := Tryz.f83) Tryz.func83 rfl (by kernel_rfl) (by kernel_rfl) (by simp [Tryz.f83]) (by rfl) ?_
  (conv => whnf)
  refine ⟨LG (fun i : Nat => i ≤ x.files.length) (fun i => x.files.length - i) (fun i => AS.of [(3, .one (.lit (.int .i64 (usedN (x.files.take i) : Nat)))), (7, .one (.row false 3 (x.files.map DStored.enc))), (8, .one (.lit (.int .i64 (x.files.length : Nat)))), (9, .one (.lit (.int .i64 (i : Nat))))] []), lg_init 0 (by omega) (weak_of allsA allsA rfl rfl), ?_⟩
  rintro σ k ⟨i, hi, rfl, rfl⟩
  refine ⟨_, Weak.refl _, ?_⟩
  (conv => whnf)
  (split <;> rename_i h <;> (try simp only [decide_eq_true_eq, decide_eq_false_iff_not, Bool.not_eq_true', Bool.not_eq_false', Bool.not_eq_true, Bool.not_eq_false, List.length_map] at h) <;> conv => whnf)
  · have hlt : i < x.files.length := by omega
    have h1 := usedN_take_succ hlt
    have h2 := usedN_take_le x.files (i + 1)
    refine ⟨i, rfl, _, at_map hlt, ?_⟩; (conv => whnf)
    refine ⟨_, _, long_c x.files[i].text, lendA, ?_⟩; (conv => whnf)
    refine ⟨((usedN (x.files.take (i + 1)) : Nat) : Int), by rw [← wrap64_id] <;> omega, ?_⟩; (conv => whnf)
    (refine ⟨((i + 1 : Nat) : Int), by rw [← wrap64_id] <;> omega, ?_⟩; conv => whnf)
    exact lg_back (i + 1) (by omega) (by (try dsimp only); omega) (weak_of allsA allsA rfl rfl)
  · have : i = x.files.length := by omega
    subst this
    exact ⟨close_int (by simp), trivial⟩
theorem usedSpec_c (x : DDrive) (hx : x.ok) (hu : usedN x.files ≤ 1000000000000) : Fun1 Tryz.prog 68 [.agg x.enc] (.one (.lit (.int .i64 (usedN x.files : Nat)))) := by
  obtain ⟨⟨hl, hf⟩, hr⟩ := hx
  refine fun1_of_vc tb_ok mix (fn := Tryz.f68) Tryz.func68 rfl (by kernel_rfl) (by kernel_rfl) (by simp [Tryz.f68]) (by rfl) ?_
  (conv => whnf)
  refine ⟨LG (fun i : Nat => i ≤ x.files.length) (fun i => x.files.length - i) (fun i => AS.of [(1, .one (.ptr 16 0)), (3, .one (.lit (.int .i64 (usedN (x.files.take i) : Nat)))), (4, .one (.lit (.int .i64 (i : Nat))))] [(16, .var x.enc)]), lg_init 0 (by omega) (weak_of allsA allsA rfl rfl), ?_⟩
  rintro σ k ⟨i, hi, rfl, rfl⟩
  refine ⟨_, Weak.refl _, ?_⟩
  (conv => whnf)
  (split <;> rename_i h <;> (try simp only [decide_eq_true_eq, decide_eq_false_iff_not, Bool.not_eq_true', Bool.not_eq_false', Bool.not_eq_true, Bool.not_eq_false, List.length_map] at h) <;> conv => whnf)
  · have hlt : i < x.files.length := by omega
    have h1 := usedN_take_succ hlt
    have h2 := usedN_take_le x.files (i + 1)
    refine ⟨i, rfl, _, at_map hlt, ?_⟩; (conv => whnf)
    refine ⟨((usedN (x.files.take (i + 1)) : Nat) : Int), by rw [← wrap64_id] <;> omega, ?_⟩; (conv => whnf)
    (refine ⟨((i + 1 : Nat) : Int), by rw [← wrap64_id] <;> omega, ?_⟩; conv => whnf)
    exact lg_back (i + 1) (by omega) (by (try dsimp only); omega) (weak_of allsA allsA rfl rfl)
  · have : i = x.files.length := by omega
    subst this
    exact ⟨close_int (by simp), trivial⟩
theorem driveSpec_c (x : DDrive) (hx : x.ok) (hu : usedN x.files ≤ 1000000000000) : Fun1 Tryz.prog 39 [.agg x.enc] (.one (.lit (.bool (driveOk x)))) := by
  have hx' := hx
  obtain ⟨⟨hl, hf⟩, hr⟩ := hx
  refine fun1_of_vc tb_ok mix (fn := Tryz.f39) Tryz.func39 rfl (by kernel_rfl) (by kernel_rfl) (by simp [Tryz.f39]) (by rfl) ?_
  (conv => whnf)
  (repeat' (split <;> rename_i hb <;> (try simp only [decide_eq_true_eq, decide_eq_false_iff_not, Bool.not_eq_true', Bool.not_eq_false', Bool.not_eq_true, Bool.not_eq_false, List.length_map] at hb) <;> conv => whnf))
  · exact ⟨close_bool (by simp [driveOk]; omega), trivial⟩
  · exact ⟨close_bool (by simp [driveOk]; omega), trivial⟩
  · exact ⟨close_bool (by simp [driveOk]; omega), trivial⟩
  refine ⟨LG (fun i : Nat => i ≤ x.files.length ∧ ∀ j, j < i → fOk x.files j = true) (fun i => x.files.length - i) (fun i => AS.of [(1, .one (.ptr 16 0)), (3, .one (.lit (.int .i64 (i : Nat))))] [(16, .var x.enc)]), lg_init 0 ⟨by omega, fun j h => by omega⟩ (weak_of allsA allsA rfl rfl), ?_⟩
  rintro σ k ⟨i, ⟨hi, hc⟩, rfl, rfl⟩
  refine ⟨_, Weak.refl _, ?_⟩
  (conv => whnf)
  (split <;> rename_i h <;> (try simp only [decide_eq_true_eq, decide_eq_false_iff_not, Bool.not_eq_true', Bool.not_eq_false', Bool.not_eq_true, Bool.not_eq_false, List.length_map] at h) <;> conv => whnf)
  · have hlt : i < x.files.length := by omega
    have hfi := hf _ (List.getElem_mem hlt)
    unfold DStored.ok inI at hfi
    refine ⟨i, rfl, _, at_map hlt, ?_⟩; (conv => whnf)
    refine ⟨_, _, nameSpec_c x.files[i].name hfi.1, lendA, ?_⟩; (conv => whnf)
    (split <;> rename_i h1 <;> (try simp only [decide_eq_true_eq, decide_eq_false_iff_not, Bool.not_eq_true', Bool.not_eq_false', Bool.not_eq_true, Bool.not_eq_false, List.length_map] at h1) <;> conv => whnf)
    · exact ⟨close_bool (driveOk_ff hlt (fOk_f hlt (by rw [h1]; simp))), trivial⟩
    (split <;> rename_i h2 <;> (try simp only [decide_eq_true_eq, decide_eq_false_iff_not, Bool.not_eq_true', Bool.not_eq_false', Bool.not_eq_true, Bool.not_eq_false, List.length_map] at h2) <;> conv => whnf)
    · refine ⟨((i - 1 : Nat) : Int), by rw [← wrap64_id] <;> omega, ?_⟩; (conv => whnf)
      refine ⟨i - 1, rfl, _, at_map (by omega), ?_⟩; (conv => whnf)
      (repeat' (split <;> rename_i hb <;> (try simp only [decide_eq_true_eq, decide_eq_false_iff_not, Bool.not_eq_true', Bool.not_eq_false', Bool.not_eq_true, Bool.not_eq_false, List.length_map] at hb) <;> conv => whnf))
      all_goals first
        | exact ⟨close_bool (driveOk_ff hlt (fOk_f hlt (by rintro ⟨q1, q2, q3, q4, q5⟩; first | omega | (rcases q2 with q2 | q2; omega; simp_all)))), trivial⟩
        | ((refine ⟨((i + 1 : Nat) : Int), by rw [← wrap64_id] <;> omega, ?_⟩; conv => whnf); exact lg_back (i + 1) ⟨by omega, fun j hj => by
            by_cases e : j = i
            · subst e; exact fOk_t hlt ⟨h1, by first | (left; omega) | (right; assumption), by omega, by omega, by omega⟩
            · exact hc j (by omega)⟩ (by (try dsimp only); omega) (weak_of allsA allsA rfl rfl))
    · (repeat' (split <;> rename_i hb <;> (try simp only [decide_eq_true_eq, decide_eq_false_iff_not, Bool.not_eq_true', Bool.not_eq_false', Bool.not_eq_true, Bool.not_eq_false, List.length_map] at hb) <;> conv => whnf))
      all_goals first
        | exact ⟨close_bool (driveOk_ff hlt (fOk_f hlt (by rintro ⟨q1, q2, q3, q4, q5⟩; omega))), trivial⟩
        | ((refine ⟨((i + 1 : Nat) : Int), by rw [← wrap64_id] <;> omega, ?_⟩; conv => whnf); exact lg_back (i + 1) ⟨by omega, fun j hj => by
            by_cases e : j = i
            · subst e; exact fOk_t hlt ⟨h1, by left; omega, by omega, by omega, by omega⟩
            · exact hc j (by omega)⟩ (by (try dsimp only); omega) (weak_of allsA allsA rfl rfl))
  · have : i = x.files.length := by omega
    subst this
    refine ⟨_, _, usedSpec_c x hx' hu, lendA, ?_⟩; (conv => whnf)
    exact ⟨close_bool (driveOk_end (by omega) (by omega) (by omega) hc), trivial⟩
end Go.Proofs.YthdejoipdgahiaaGreatDoor
namespace Go.Proofs.YthdejoipdgahiaaGreatDoor
open Go.RowKit
set_option linter.unusedSimpArgs false
set_option linter.unusedVariables false
theorem fun1_of_calls2 {P : Program} {f : FuncId} {a b v : Value} (hc : Callable P f) (hv : v.oneCell' = true) (h : ∀ w, Calls P f #[a, b] w fun e w' => e = .returned v ∧ w = w') : Fun1 P f [.one (.lit a), .one (.lit b)] (.one (.lit v)) := by
  refine ⟨hc, by simp [T.nb, AV.nb], fun w I vs hI _ hargs => ?_⟩
  obtain ⟨vs⟩ := vs
  match vs, hargs with
  | [x, y], hargs =>
    have hx := hargs.1.1
    have hy := hargs.2.1.1
    cases hx; cases hy
    refine (h w).mono ?_
    rintro e w' ⟨rfl, rfl⟩
    exact ⟨v, fun _ => False, rfl, ⟨.plain rfl (.lit v) (fun _ h => h), hv⟩, fun _ h => h.elim, Bel.refl _ _⟩
set_option maxHeartbeats 1000000 in
set_option maxRecDepth 100000 in
theorem bytealgCompare_c (a b : ByteArray) (w : World) :
    Calls Tryz.prog 133 #[.string a, .string b] w fun e w' => e = .returned (.int .i64 (Lib.compareBytes a.data.toList b.data.toList)) ∧ w = w' := by
  go_enter Tryz.func133, Tryz.ntmps133
  go_wp2
  rw [run_callFunc_extern Tryz.func167 (by kernel_rfl) (by kernel_rfl) (by kernel_rfl) (e := Extern.BytealgCompare.compare) (by kernel_rfl), Lib.run_compareString]
  simp only [Result.andThen]
  rw [Oper.upon_value]
  go_wp2
  go_ret
  exact ⟨rfl, rfl⟩
theorem bytealgCmp_c (a b : ByteArray) : Fun1 Tryz.prog 133 [.one (.lit (.string a)), .one (.lit (.string b))] (.one (.lit (.int .i64 (cmpB a b)))) :=
  fun1_of_calls2 ⟨_, Tryz.func133, rfl, by kernel_rfl⟩ rfl (bytealgCompare_c a b)
set_option maxRecDepth 100000
theorem compare_c (a b : ByteArray) : Fun1 Tryz.prog 96 [.one (.lit (.string a)), .one (.lit (.string b))] (.one (.lit (.int .i64 (cmpB a b)))) := by
  refine fun1_of_vc tb_ok mix (fn := Tryz.f96) Tryz.func96 rfl (by kernel_rfl) (by kernel_rfl) (by simp [Tryz.f96]) (by rfl) ?_
  (conv => whnf)
  refine ⟨_, _, bytealgCmp_c a b, lendA, ?_⟩; (conv => whnf)
  exact (by repeat' (first | exact trivial | exact close_int rfl | exact close_str rfl | exact close_bool rfl | exact close_int (by omega) | exact close_row rfl rfl (by first | rfl | simp) (by first | rfl | simp) | exact close_nil (by first | rfl | simp) | exact rfl | apply And.intro | apply closeTs_cons rfl))
end Go.Proofs.YthdejoipdgahiaaGreatDoor
namespace Go.Proofs.YthdejoipdgahiaaGreatDoor
open Go.RowKit
set_option linter.unusedSimpArgs false
set_option linter.unusedVariables false
set_option maxRecDepth 100000
theorem driveImpl_c (x : DDrive) (hx : x.ok) (hu : usedN x.files ≤ 1000000000000) : Fun1 Tryz.prog 50 [.agg x.enc] (.one (.lit (.bool (driveOk x)))) := by
  have hx' := hx
  obtain ⟨⟨hl, hf⟩, hr⟩ := hx
  refine fun1_of_vc tb_ok mix (fn := Tryz.f50) Tryz.func50 rfl (by kernel_rfl) (by kernel_rfl) (by simp [Tryz.f50]) (by rfl) ?_
  (conv => whnf)
  (split <;> rename_i h0 <;> (try simp only [decide_eq_true_eq, decide_eq_false_iff_not, Bool.not_eq_true', Bool.not_eq_false', Bool.not_eq_true, Bool.not_eq_false, List.length_map] at h0) <;> conv => whnf)
  · exact ⟨close_bool (by simp [driveOk]; omega), trivial⟩
  refine ⟨_, _, within_c x.room 0 100000, lendA, ?_⟩; (conv => whnf)
  (split <;> rename_i h9 <;> (try simp only [decide_eq_true_eq, decide_eq_false_iff_not, Bool.not_eq_true', Bool.not_eq_false', Bool.not_eq_true, Bool.not_eq_false, List.length_map] at h9) <;> conv => whnf)
  · exact ⟨close_bool (by simp at h9; simp [driveOk]; omega), trivial⟩
  simp only [Bool.and_eq_true, decide_eq_true_eq] at h9
  refine ⟨LG (fun i : Nat => i ≤ x.files.length ∧ ∀ j, j < i → fOk x.files j = true) (fun i => x.files.length - i) (fun i => AS.of [(1, .one (.ptr 16 0)), (16, .one (.row false 3 (x.files.map DStored.enc))), (17, .one (.lit (.int .i64 (x.files.length : Nat)))), (18, .one (.lit (.int .i64 (i : Nat))))] [(16, .var x.enc)]), lg_init 0 ⟨by omega, fun j h => by omega⟩ (weak_of allsA allsA rfl rfl), ?_⟩
  rintro σ k ⟨i, ⟨hi, hc⟩, rfl, rfl⟩
  refine ⟨_, Weak.refl _, ?_⟩
  (conv => whnf)
  (split <;> rename_i h <;> (try simp only [decide_eq_true_eq, decide_eq_false_iff_not, Bool.not_eq_true', Bool.not_eq_false', Bool.not_eq_true, Bool.not_eq_false, List.length_map] at h) <;> conv => whnf)
  · have hlt : i < x.files.length := by omega
    have hfi := hf _ (List.getElem_mem hlt)
    unfold DStored.ok inI at hfi
    refine ⟨i, rfl, _, at_map hlt, ?_⟩; (conv => whnf)
    refine ⟨_, _, nameImpl_c x.files[i].name hfi.1, lendA, ?_⟩; (conv => whnf)
    (split <;> rename_i h1 <;> (try simp only [decide_eq_true_eq, decide_eq_false_iff_not, Bool.not_eq_true', Bool.not_eq_false', Bool.not_eq_true, Bool.not_eq_false, List.length_map] at h1) <;> conv => whnf)
    · exact ⟨close_bool (driveOk_ff hlt (fOk_f hlt (by rw [h1]; simp))), trivial⟩
    have hbad : ∀ {r : Bool}, r = false → ¬ (x.files[i].text.size ≤ 20000 ∧ 0 ≤ x.files[i].synced ∧ x.files[i].synced ≤ (x.files[i].text.size : Int)) → driveOk x = r := fun hr h => by rw [hr]; exact driveOk_ff hlt (fOk_f hlt fun q => h q.2.2)
    have hnext : (i = 0 ∨ sless (x.files[i - 1]'(by omega)).name x.files[i].name = true) → x.files[i].text.size ≤ 20000 ∧ 0 ≤ x.files[i].synced ∧ x.files[i].synced ≤ (x.files[i].text.size : Int) → ∀ j, j < i + 1 → fOk x.files j = true := fun h h' j hj => by
      by_cases e : j = i
      · subst e; exact fOk_t hlt ⟨h1, h, h'⟩
      · exact hc j (by omega)
    (split <;> rename_i h2 <;> (try simp only [decide_eq_true_eq, decide_eq_false_iff_not, Bool.not_eq_true', Bool.not_eq_false', Bool.not_eq_true, Bool.not_eq_false, List.length_map] at h2) <;> conv => whnf)
    · refine ⟨((i - 1 : Nat) : Int), by rw [← wrap64_id] <;> omega, ?_⟩; (conv => whnf)
      refine ⟨i - 1, rfl, _, at_map (by omega), ?_⟩; (conv => whnf)
      (split <;> rename_i h3 <;> (try simp only [decide_eq_true_eq, decide_eq_false_iff_not, Bool.not_eq_true', Bool.not_eq_false', Bool.not_eq_true, Bool.not_eq_false, List.length_map] at h3) <;> conv => whnf)
      · exact ⟨close_bool (driveOk_ff hlt (fOk_f hlt (by rintro ⟨q1, q2, q3⟩; rcases q2 with q2 | q2; omega; simp_all))), trivial⟩
      refine ⟨_, _, isLong_c x.files[i].text, lendA, ?_⟩; (conv => whnf)
      (split <;> rename_i h4 <;> (try simp only [decide_eq_true_eq, decide_eq_false_iff_not, Bool.not_eq_true', Bool.not_eq_false', Bool.not_eq_true, Bool.not_eq_false, List.length_map] at h4) <;> conv => whnf)
      · exact ⟨close_bool (hbad rfl (by omega)), trivial⟩
      refine ⟨_, _, long_c x.files[i].text, lendA, ?_⟩; (conv => whnf)
      refine ⟨_, _, within_c x.files[i].synced 0 x.files[i].text.size, lendA, ?_⟩; (conv => whnf)
      (split <;> rename_i h5 <;> (try simp only [decide_eq_true_eq, decide_eq_false_iff_not, Bool.not_eq_true', Bool.not_eq_false', Bool.not_eq_true, Bool.not_eq_false, List.length_map] at h5) <;> conv => whnf)
      · exact ⟨close_bool (hbad rfl (by simp at h5; omega)), trivial⟩
      simp only [Bool.and_eq_true, decide_eq_true_eq] at h5
      (refine ⟨((i + 1 : Nat) : Int), by rw [← wrap64_id] <;> omega, ?_⟩; conv => whnf)
      exact lg_back (i + 1) ⟨by omega, hnext (.inr h3) (by omega)⟩ (by (try dsimp only); omega) (weak_of allsA allsA rfl rfl)
    · refine ⟨_, _, isLong_c x.files[i].text, lendA, ?_⟩; (conv => whnf)
      (split <;> rename_i h4 <;> (try simp only [decide_eq_true_eq, decide_eq_false_iff_not, Bool.not_eq_true', Bool.not_eq_false', Bool.not_eq_true, Bool.not_eq_false, List.length_map] at h4) <;> conv => whnf)
      · exact ⟨close_bool (hbad rfl (by omega)), trivial⟩
      refine ⟨_, _, long_c x.files[i].text, lendA, ?_⟩; (conv => whnf)
      refine ⟨_, _, within_c x.files[i].synced 0 x.files[i].text.size, lendA, ?_⟩; (conv => whnf)
      (split <;> rename_i h5 <;> (try simp only [decide_eq_true_eq, decide_eq_false_iff_not, Bool.not_eq_true', Bool.not_eq_false', Bool.not_eq_true, Bool.not_eq_false, List.length_map] at h5) <;> conv => whnf)
      · exact ⟨close_bool (hbad rfl (by simp at h5; omega)), trivial⟩
      simp only [Bool.and_eq_true, decide_eq_true_eq] at h5
      (refine ⟨((i + 1 : Nat) : Int), by rw [← wrap64_id] <;> omega, ?_⟩; conv => whnf)
      exact lg_back (i + 1) ⟨by omega, hnext (.inl (by omega)) (by omega)⟩ (by (try dsimp only); omega) (weak_of allsA allsA rfl rfl)
  · have : i = x.files.length := by omega
    subst this
    refine ⟨_, _, usedImpl_c x hx' hu, lendA, ?_⟩; (conv => whnf)
    exact ⟨close_bool (driveOk_end (by omega) (by omega) (by omega) hc), trivial⟩
theorem find1_c (f : DStored) (name : ByteArray) : Fun1 Tryz.prog 95 [.agg f.enc, .one (.lit (.string name))] (.one (.lit (.int .i64 (cmpB f.name name)))) := by
  refine fun1_of_vc tb_ok mix (fn := Tryz.f95) Tryz.func95 rfl (by kernel_rfl) (by kernel_rfl) (by simp [Tryz.f95]) (by rfl) ?_
  (conv => whnf)
  refine ⟨_, _, compare_c f.name name, lendA, ?_⟩; (conv => whnf)
  exact (by repeat' (first | exact trivial | exact close_int rfl | exact close_str rfl | exact close_bool rfl | exact close_int (by omega) | exact close_row rfl rfl (by first | rfl | simp) (by first | rfl | simp) | exact close_nil (by first | rfl | simp) | exact rfl | apply And.intro | apply closeTs_cons rfl))
theorem bsearch_c (d : DDrive) (hd : driveOk d = true) (name : ByteArray) (hl : d.files.length ≤ 4294967296) : Fun1 Tryz.prog 94 [.one (.row true 3 (d.files.map DStored.enc)), .one (.lit (.string name)), .one (.fn 95 [])]
    (.tup [(false, [.lit (.int .i64 (findP d.files name : Nat))]), (false, [.lit (.bool (hasN d.files name))])]) := by
  refine fun1_of_vc tb_ok mix (fn := Tryz.f94) Tryz.func94 rfl (by kernel_rfl) (by kernel_rfl) (by simp [Tryz.f94]) (by rfl) ?_
  (conv => whnf)
  refine ⟨LG (fun p : Nat × Nat => p.1 ≤ p.2 ∧ p.2 ≤ d.files.length ∧ (∀ t (h : t < d.files.length), t < p.1 → cmpB d.files[t].name name < 0) ∧ ∀ t (h : t < d.files.length), p.2 ≤ t → 0 ≤ cmpB d.files[t].name name) (fun p => p.2 - p.1)
    (fun p => AS.of [(0, .one (.row true 3 (d.files.map DStored.enc))), (1, .one (.lit (.string name))), (2, .one (.fn 95 [])), (8, .one (.lit (.int .i64 (d.files.length : Nat)))), (9, .one (.lit (.int .i64 (p.1 : Nat)))), (10, .one (.lit (.int .i64 (p.2 : Nat))))] []),
    lg_init (0, d.files.length) ⟨by simp, by simp, fun t h h' => by simp at h', fun t h h' => by simp at h'; omega⟩ (weak_of allsA allsA rfl rfl), ?_⟩
  rintro σ k ⟨⟨i, j⟩, ⟨hij, hj, hlo, hhi⟩, rfl, rfl⟩
  simp only at hij hj hlo hhi
  refine ⟨_, Weak.refl _, ?_⟩
  (conv => whnf)
  (split <;> rename_i h <;> (try simp only [decide_eq_true_eq, decide_eq_false_iff_not, Bool.not_eq_true', Bool.not_eq_false', Bool.not_eq_true, Bool.not_eq_false, List.length_map] at h) <;> conv => whnf)
  · have hlt : i < j := by omega
    refine ⟨((i + j : Nat) : Int), by rw [← wrap64_id] <;> omega, ?_⟩; (conv => whnf)
    refine ⟨((i + j : Nat) : Int), wrap_id (by simp [IntKind.min, IntKind.signed]; omega) (by simp [IntKind.max, IntKind.signed, IntKind.bits]; omega), ?_⟩; (conv => whnf)
    refine ⟨by decide, (((i + j) / 2 : Nat) : Int), by simp [IntKind.bits, Int.fdiv_eq_ediv], ?_⟩; (conv => whnf)
    refine ⟨(((i + j) / 2 : Nat) : Int), by rw [← wrap64_id] <;> omega, ?_⟩; (conv => whnf)
    have hm : (i + j) / 2 < d.files.length := by omega
    refine ⟨(i + j) / 2, rfl, _, at_map hm, ?_⟩; (conv => whnf)
    refine ⟨_, _, find1_c d.files[(i + j) / 2] name, lendA, ?_⟩; (conv => whnf)
    have hmono : ∀ t (h : t < d.files.length), t < (i + j) / 2 → cmpB d.files[(i + j) / 2].name name ≤ 0 → cmpB d.files[t].name name < 0 := fun t h ht hle => by
      have h1 := sorted_of hd _ t ht hm
      rcases Int.lt_or_eq_of_le hle with h2 | h2
      · exact (cmpB_neg _ _).2 (bLt_trans h1 ((cmpB_neg _ _).1 h2))
      · rw [← (cmpB_zero _ _).1 h2]; exact (cmpB_neg _ _).2 h1
    have hmono2 : ∀ t (h : t < d.files.length), (i + j) / 2 < t → 0 ≤ cmpB d.files[(i + j) / 2].name name → 0 ≤ cmpB d.files[t].name name := fun t h ht hge => by
      have h1 := sorted_of hd t _ ht h
      by_cases hneg : cmpB d.files[t].name name < 0
      · have := (cmpB_neg _ _).2 (bLt_trans h1 ((cmpB_neg _ _).1 hneg)); omega
      · omega
    (split <;> rename_i h2 <;> (try simp only [decide_eq_true_eq, decide_eq_false_iff_not, Bool.not_eq_true', Bool.not_eq_false', Bool.not_eq_true, Bool.not_eq_false, List.length_map] at h2) <;> conv => whnf)
    · refine ⟨(((i + j) / 2 + 1 : Nat) : Int), by rw [← wrap64_id] <;> omega, ?_⟩; (conv => whnf)
      exact lg_back ((i + j) / 2 + 1, j) ⟨by simp; omega, hj, fun t h ht => by
        simp only at ht
        by_cases e : t = (i + j) / 2
        · subst e; exact h2
        · exact hmono t h (by omega) (by omega), hhi⟩ (by simp only; omega) (weak_of allsA allsA rfl rfl)
    · exact lg_back (i, (i + j) / 2) ⟨by simp; omega, by simp; omega, hlo, fun t h ht => by
        simp only at ht
        by_cases e : t = (i + j) / 2
        · subst e; omega
        · exact hmono2 t h (by omega) (by omega)⟩ (by simp only; omega) (weak_of allsA allsA rfl rfl)
  · have : i = j := by omega
    subst this
    have hP := findP_cut hj hlo hhi
    (split <;> rename_i h2 <;> (try simp only [decide_eq_true_eq, decide_eq_false_iff_not, Bool.not_eq_true', Bool.not_eq_false', Bool.not_eq_true, Bool.not_eq_false, List.length_map] at h2) <;> conv => whnf)
    · have hlt : i < d.files.length := by omega
      refine ⟨i, rfl, _, at_map hlt, ?_⟩; (conv => whnf)
      refine ⟨_, _, find1_c d.files[i] name, lendA, ?_⟩; (conv => whnf)
      rw [hP, hasN_cut hd hlt hlo hhi]
      exact (by repeat' (first | exact trivial | exact close_int rfl | exact close_str rfl | exact close_bool rfl | exact close_int (by omega) | exact close_row rfl rfl (by first | rfl | simp) (by first | rfl | simp) | exact close_nil (by first | rfl | simp) | exact rfl | apply And.intro | apply closeTs_cons rfl))
    · have e : i = d.files.length := by omega
      rw [hP, hasN_none (fun t h => hlo t h (by omega))]
      exact (by repeat' (first | exact trivial | exact close_int rfl | exact close_str rfl | exact close_bool rfl | exact close_int (by omega) | exact close_row rfl rfl (by first | rfl | simp) (by first | rfl | simp) | exact close_nil (by first | rfl | simp) | exact rfl | apply And.intro | apply closeTs_cons rfl))
theorem find_c (d : DDrive) (hd : driveOk d = true) (name : ByteArray) (hl : d.files.length ≤ 4294967296) : Fun1 Tryz.prog 63 [.agg d.enc, .one (.lit (.string name))]
    (.tup [(false, [.lit (.int .i64 (findP d.files name : Nat))]), (false, [.lit (.bool (hasN d.files name))])]) := by
  refine fun1_of_vc tb_ok mix (fn := Tryz.f63) Tryz.func63 rfl (by kernel_rfl) (by kernel_rfl) (by simp [Tryz.f63]) (by rfl) ?_
  (conv => whnf)
  refine ⟨_, _, bsearch_c d hd name hl, lendA, ?_⟩; (conv => whnf)
  exact (by repeat' (first | exact trivial | exact close_int rfl | exact close_str rfl | exact close_bool rfl | exact close_int (by omega) | exact close_row rfl rfl (by first | rfl | simp) (by first | rfl | simp) | exact close_nil (by first | rfl | simp) | exact rfl | apply And.intro | apply closeTs_cons rfl))
theorem l08Find_c (d : DDrive) (name : ByteArray) (hl : d.files.length ≤ 4294967296) : Fun1 Tryz.prog 69 [.agg d.enc, .one (.lit (.string name))] (.one (.lit (.int .i64 (findI d.files name)))) := by
  refine fun1_of_vc tb_ok mix (fn := Tryz.f69) Tryz.func69 rfl (by kernel_rfl) (by kernel_rfl) (by simp [Tryz.f69]) (by rfl) ?_
  (conv => whnf)
  refine ⟨LG (fun i : Nat => i ≤ d.files.length ∧ ∀ t (h : t < d.files.length), t < i → d.files[t].name ≠ name) (fun i => d.files.length - i) (fun i => AS.of [(1, .one (.lit (.string name))), (2, .one (.ptr 32 0)), (5, .one (.lit (.int .i64 (i : Nat))))] [(32, .var d.enc)]), lg_init 0 ⟨by omega, fun t h h' => by omega⟩ (weak_of allsA allsA rfl rfl), ?_⟩
  rintro σ k ⟨i, ⟨hi, hc⟩, rfl, rfl⟩
  refine ⟨_, Weak.refl _, ?_⟩
  (conv => whnf)
  (split <;> rename_i h <;> (try simp only [decide_eq_true_eq, decide_eq_false_iff_not, Bool.not_eq_true', Bool.not_eq_false', Bool.not_eq_true, Bool.not_eq_false, List.length_map] at h) <;> conv => whnf)
  · have hlt : i < d.files.length := by omega
    refine ⟨i, rfl, _, at_map hlt, ?_⟩; (conv => whnf)
    (split <;> rename_i h2 <;> (try simp only [decide_eq_true_eq, decide_eq_false_iff_not, Bool.not_eq_true', Bool.not_eq_false', Bool.not_eq_true, Bool.not_eq_false, List.length_map] at h2) <;> conv => whnf)
    · exact ⟨close_int (findI_at hlt hc h2), trivial⟩
    · (refine ⟨((i + 1 : Nat) : Int), by rw [← wrap64_id] <;> omega, ?_⟩; conv => whnf)
      exact lg_back (i + 1) ⟨by omega, fun t h ht => by
        by_cases e : t = i
        · subst e; exact h2
        · exact hc t h (by omega)⟩ (by (try dsimp only); omega) (weak_of allsA allsA rfl rfl)
  · exact ⟨close_int (findI_none (fun t h => hc t h (by omega))).1, trivial⟩
end Go.Proofs.YthdejoipdgahiaaGreatDoor
namespace Go.Proofs.YthdejoipdgahiaaGreatDoor
open Go.RowKit
set_option linter.unusedSimpArgs false
set_option linter.unusedVariables false
set_option maxRecDepth 100000
set_option maxHeartbeats 4000000
theorem laid_map {α : Type} {f : α → List AV} {s : Nat} (h : ∀ x, (f x).map AV.bor = f x) (l : List α) : l.map f = laid true s (l.map f) := by
  simp only [laid, if_true, List.map_map]
  exact List.map_congr_left fun x _ => (h x).symm
theorem at_map0 {α β : Type} {f : α → β} {l : List α} {i : Nat} (h : i < l.length) : (l.map f)[0 + i]? = some (f l[i]) := by rw [Nat.zero_add]; exact at_map h
end Go.Proofs.YthdejoipdgahiaaGreatDoor
namespace Go.Proofs.YthdejoipdgahiaaGreatDoor
open Go.RowKit
set_option linter.unusedSimpArgs false
set_option linter.unusedVariables false
set_option maxRecDepth 100000
set_option maxHeartbeats 4000000
theorem tyI64 : ∃ inf : TypeInfo, ∃ z : Value, Tryz.prog.underlying 118 = some (.slice 2) ∧ Tryz.prog.info? 2 = some inf ∧ inf.size = 1 ∧ inf.bytes = 8 ∧ inf.zero = some z ∧ z.cells.size = 1 := by
  refine ⟨_, _, rfl, rfl, rfl, rfl, rfl, rfl⟩
theorem growNil (w : World) (n : Nat) (h0 : 0 < n) (hn : n ≤ 1099511627776) :
    Calls Tryz.prog 179 #[.slice none 0 0, .int .i64 n] w fun e w' => e = .returned (.slice (some ⟨w.heap.size, 0, none⟩) 0 (grownCap w n 0 2)) ∧ ∃ zc : Array Value, zc.size = 1 ∧
      w' = w.drew.alloc (.cells (Builtin.zeroCells zc n ++ Builtin.zeroCells zc (grownCap w n 0 2 - n)) 2) := by
  obtain ⟨inf, z, hu, hi, hs, hb, hz, hzs⟩ := tyI64
  have htn : Tryz.prog.underlying 3 = some (.int .i64) := by rfl
  have hrun := fun ty => Lib.run_append_nil_zeros (P := Tryz.prog) w 118 3 ty 2 inf z .i64 .i64 hu htn hi hz n h0 (by omega) (by omega) (by rw [hb]; omega)
  generalize z.cells = zc at hrun hzs
  have h1 : ¬ ((n : Int) < 0) := by omega
  have h2 : (0 : Int) < (n : Int) := by omega
  have hw : IntKind.i64.wrap ((n : Int) - 0) = (n : Int) := by rw [IntKind.wrap_i64]; omega
  clear hz
  go_enter Tryz.func179, Tryz.ntmps179
  go_wp2_with (at_builtin; refine Lib.wpList_append_run _ rfl _ _ _ _ rfl _ _ rfl rfl _ _ (hrun _) ?_)
  go_ret
  exact ⟨rfl, _, hzs, rfl⟩
theorem growZero (w : World) : Calls Tryz.prog 179 #[.slice none 0 0, .int .i64 (0 : Nat)] w fun e w' => e = .returned (.slice none 0 0) ∧ w' = w := by
  go_enter Tryz.func179, Tryz.ntmps179
  go_wp2
  go_ret
  exact ⟨rfl, rfl⟩
theorem unfz1 (C : Array Value) : Unfz 1 C (0, 0) := fun i _ => by simp
theorem grow_c (n : Nat) (hn : n ≤ 1099511627776) : Fun1 Tryz.prog 179 [.one (.lit (.slice none 0 0)), .one (vN n)] (.one (.row true 1 [])) := by
  refine ⟨⟨_, Tryz.func179, by kernel_rfl, by kernel_rfl⟩, rfl, fun w I vs hI _ hargs => ?_⟩
  obtain ⟨vs⟩ := vs
  match vs, hargs with
  | [x, y], hargs =>
    have hx := hargs.1.1
    have hy := hargs.2.1.1
    cases hx; cases hy
    rcases Nat.eq_zero_or_pos n with rfl | h0
    · refine (growZero w).mono ?_
      rintro e w' ⟨rfl, rfl⟩
      exact ⟨_, fun _ => False, rfl, ⟨.nil (fun _ h => h), rfl⟩, fun _ h => h.elim, Bel.refl _ _⟩
    · refine (growNil w n h0 hn).mono ?_
      rintro e w' ⟨rfl, zc, hz, rfl⟩
      have hcap := grownCap_ge w n 0 2
      have hmx := grownCap_le_maxLen w n 0 2 (by simp only [maxLen]; omega)
      refine ⟨_, fun k => k = w.heap.size, rfl, ⟨.own w.heap.size _ _ _ (fun _ _ _ => False) (heap_alloc_new w.drew _) (unfz1 _) (Nat.zero_le _) hmx ?_ (by simp) (by simp [elt]) (by simp [elt]) (fun _ _ h => h) (fun _ _ _ _ _ h => h.elim) (fun _ _ _ h => h.elim) (fun k => ⟨.inl, fun h => h.resolve_right (by simp)⟩) (fun _ => rfl), rfl⟩, fun k hk => ?_, ?_⟩
      · rw [Array.size_append, size_zeroCells, size_zeroCells, hz]; omega
      · subst hk; simp
      · exact ((Bel.refl _ _).drew).alloc (Nat.le_refl _) _
theorem flat_take_succ {α : Type} {l : List (List α)} {i : Nat} (h : i < l.length) : (l.take (i + 1)).flatten = (l.take i).flatten ++ l[i] := by
  rw [List.take_succ_eq_append_getElem h, List.flatten_append]; simp
theorem flat_take_le {α : Type} (l : List (List α)) (i : Nat) : (l.take i).flatten.length ≤ l.flatten.length := by
  have : l.flatten = (l.take i).flatten ++ (l.drop i).flatten := by rw [← List.flatten_append, List.take_append_drop]
  rw [this, List.length_append]; omega
abbrev rN (r : List Nat) : List AV := [.row true 1 (r.map fun n => [vN n])]
theorem concat_c (rs : List (List Nat)) (h1 : rs.length ≤ 4294967296) (h2 : rs.flatten.length ≤ 4294967296) : Fun1 Tryz.prog 153 [.one (.row true 1 (rs.map rN))] (.one (.row true 1 (rs.flatten.map fun n => [vN n]))) := by
  refine fun1_of_vc tb_ok mix (fn := Tryz.f153) Tryz.func153 rfl (by kernel_rfl) (by kernel_rfl) (by simp [Tryz.f153]) (by show AV.nb (4 + 1) _ = true; exact nb_map (n := 4) (fun y => rfl) _) ?_
  (conv => whnf)
  refine ⟨LG (fun i : Nat => i ≤ rs.length) (fun i => rs.length - i) (fun i => AS.of [(0, .one (.row true 1 (rs.map rN))), (3, .one (vN (rs.take i).flatten.length)), (9, .one (.row true 1 (rs.map rN))), (10, .one (vN rs.length)), (11, .one (vN i))] []), lg_init 0 (by omega) (weak_of (all_cons rfl (all_cons (eq_int rfl (by simp)) (all_cons rfl (all_cons (eq_int rfl (by simp)) (all_cons rfl all_nil))))) all_nil rfl rfl), ?_⟩
  rintro σ k ⟨i, hi, rfl, rfl⟩
  have hle := flat_take_le rs i
  have hle1 := flat_take_le rs (i + 1)
  refine ⟨_, Weak.refl _, ?_⟩
  (conv => whnf)
  (split <;> rename_i h <;> (try simp only [decide_eq_true_eq, decide_eq_false_iff_not, Bool.not_eq_true', Bool.not_eq_false', Bool.not_eq_true, Bool.not_eq_false, List.length_map] at h) <;> conv => whnf)
  · have hlt : i < rs.length := by omega
    have hfs := flat_take_succ hlt
    have hl2 : (rs.take (i + 1)).flatten.length = (rs.take i).flatten.length + rs[i].length := by rw [hfs, List.length_append]
    refine ⟨i, rfl, _, at_map hlt, ?_⟩; (conv => whnf)
    refine ⟨((rs.take (i + 1)).flatten.length : Nat), by rw [← wrap64_id] <;> simp only [List.length_map] <;> omega, ?_⟩; (conv => whnf)
    (refine ⟨((i + 1 : Nat) : Int), by rw [← wrap64_id] <;> omega, ?_⟩; conv => whnf)
    exact lg_back (i + 1) (by omega) (by (try dsimp only); omega) (weak_of allsA allsA rfl rfl)
  · have : i = rs.length := by omega
    subst this
    refine ⟨_, _, grow_c (rs.take rs.length).flatten.length (by omega), lendA, ?_⟩; (conv => whnf)
    refine ⟨LG (fun i : Nat => i ≤ rs.length) (fun i => rs.length - i) (fun i => AS.of [(6, .one (.loc 384 0 (rs.take i).flatten.length)), (25, .one (.row true 1 (rs.map rN))), (26, .one (vN rs.length)), (27, .one (vN i))] [(384, .row true 1 ((rs.take i).flatten.map fun n => [vN n]))]), lg_init 0 (by omega) (weak_of (all_cons rfl (all_cons rfl (all_cons (eq_int rfl (by simp)) (all_cons rfl all_nil)))) (all_cons rfl all_nil) rfl rfl), ?_⟩
    rintro σ k ⟨i, hi, rfl, rfl⟩
    have hle := flat_take_le rs i
    have hle1 := flat_take_le rs (i + 1)
    refine ⟨_, Weak.refl _, ?_⟩
    (conv => whnf)
    (split <;> rename_i h <;> (try simp only [decide_eq_true_eq, decide_eq_false_iff_not, Bool.not_eq_true', Bool.not_eq_false', Bool.not_eq_true, Bool.not_eq_false, List.length_map] at h) <;> conv => whnf)
    · have hlt : i < rs.length := by omega
      have hfs := flat_take_succ hlt
      have hl2 : (rs.take (i + 1)).flatten.length = (rs.take i).flatten.length + rs[i].length := by rw [hfs, List.length_append]
      refine ⟨i, rfl, _, at_map hlt, ?_⟩; (conv => whnf)
      refine ⟨true, rs[i].map (fun n => [vN n]), ⟨rfl, rfl, rfl⟩, ?_⟩; (conv => whnf)
      refine ⟨_, laid_map (f := fun n => [vN n]) (fun _ => rfl) rs[i], rfl, by rw [List.length_map], rfl, by simp only [maxLen, List.length_map]; omega, by simp only [List.length_map]; omega, ?_⟩; (conv => whnf)
      (refine ⟨((i + 1 : Nat) : Int), by rw [← wrap64_id] <;> omega, ?_⟩; conv => whnf)
      exact lg_back (i + 1) (by omega) (by (try dsimp only); omega) (weak_of (all_cons (eq_loc rfl (by rw [hl2, List.length_map, List.length_map])) (all_cons rfl (all_cons rfl (all_cons rfl all_nil)))) (all_cons (eq_row rfl (by rw [hfs, List.map_append])) all_nil) rfl rfl)
    · have : i = rs.length := by omega
      subst this
      exact ⟨close_row rfl rfl (by rw [List.length_map]) (by rw [List.take_length]), trivial⟩
end Go.Proofs.YthdejoipdgahiaaGreatDoor
namespace Go.Proofs.YthdejoipdgahiaaGreatDoor
open Go.RowKit
set_option linter.unusedSimpArgs false
set_option linter.unusedVariables false
set_option maxHeartbeats 2000000

section
variable {P : Program} {w0 w : World} {L : Nat → Prop} {n : Nat} {σ : AS} {a : Act} {c : Ctx} {F : Nat → Nat → Prop} {E : Tab}

def ext (g : Array Value) (a : Act) : Act := { a with tmps := a.tmps ++ g }
def AS.enter (σ : AS) (n : Nat) (args : List T) : AS := ⟨fun k => if k < n then args.getD k .dead else σ.tm (k - n), σ.mem⟩
end
end Go.Proofs.YthdejoipdgahiaaGreatDoor
