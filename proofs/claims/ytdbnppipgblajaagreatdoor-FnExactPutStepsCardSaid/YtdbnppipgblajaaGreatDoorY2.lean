/- Texts of the proof: an abstract machine for Go functions, contracts of the program's functions, and the row. -/
import Derived.Test.YtdbnppipgblajaaGreatDoorY1
import Derived.Test.YtdbnppipgblajaaGreatDoorChecked
import Derived.KernelRfl
import Derived.Lib.Strings
import Derived.Lib.Bytealg
import Derived.Lib.Slices
import Derived.Lib.Walk
import Derived.Laws.Closers25b
import Derived.Laws.Bits64
import Derived.Laws.BitsLemmas
namespace Go.Proofs.YtdbnppipgblajaaGreatDoor
open Go.RowKit
set_option linter.unusedSimpArgs false
set_option linter.unusedVariables false

theorem eq_int {t : T} {k : IntKind} {a b : Int} (h : t = .one (.lit (.int k a))) (e : a = b) : t = .one (.lit (.int k b)) := by rw [h, e]
theorem eq_str {t : T} {a b : ByteArray} (h : t = .one (.lit (.string a))) (e : a = b) : t = .one (.lit (.string b)) := by rw [h, e]
theorem eq_bool {t : T} {a b : Bool} (h : t = .one (.lit (.bool a))) (e : a = b) : t = .one (.lit (.bool b)) := by rw [h, e]
theorem eq_loc {t : T} {s o l l' : Nat} (h : t = .one (.loc s o l)) (e : l = l') : t = .one (.loc s o l') := by rw [h, e]
theorem eq_row {t : Option Blk} {p : Bool} {sz : Nat} {es es' : List (List AV)} (h : t = some (.row p sz es)) (e : es = es') : t = some (.row p sz es') := by rw [h, e]
theorem eq_var {t : Option Blk} {xs ys : List AV} (h : t = some (.var xs)) (e : xs = ys) : t = some (.var ys) := by rw [h, e]

/-- A loop's states: one for each datum, with a measure. -/
def LG {α : Type} (I : α → Prop) (m : α → Nat) (S : α → AS) : AS → Nat → Prop := fun σ k => ∃ a, I a ∧ k = m a ∧ σ = S a
theorem lg_init {α : Type} {I : α → Prop} {m : α → Nat} {S : α → AS} {σ : AS} (a : α) (hI : I a) (h : Weak σ (S a)) : ∃ σ' k, Weak σ σ' ∧ LG I m S σ' k := ⟨_, _, h, a, hI, rfl, rfl⟩
theorem lg_back {α : Type} {I : α → Prop} {m : α → Nat} {S : α → AS} {σ : AS} {k : Nat} (a : α) (hI : I a) (hk : m a < k) (h : Weak σ (S a)) : ∃ σ' k', Weak σ σ' ∧ k' < k ∧ LG I m S σ' k' := ⟨_, _, h, hk, a, hI, rfl, rfl⟩

theorem la_lit {m : Nat → Option Blk} {n : Nat} {v u : Value} (h : u = v) : LendA m n (.lit v) (.lit u) := by
  subst h
  cases u with
  | slice A a b => cases A <;> cases a <;> cases b <;> cases n <;> exact Or.inl rfl
  | _ => cases n <;> exact Or.inl rfl
theorem la_cell {m : Nat → Option Blk} {n : Nat} {x : AV} (h : x.isCell = true) : LendA m n x x := by
  cases x with
  | lit v => exact la_lit rfl
  | row o sz es => exact la_row rfl rfl
  | _ => cases h
theorem all2_cell {m : Nat → Option Blk} {n : Nat} : ∀ {xs : List AV}, xs.all AV.isCell = true → all2 (LendA m n) xs xs
  | [], _ => trivial
  | x :: xs, h => by
    simp only [List.all_cons, Bool.and_eq_true] at h
    exact ⟨la_cell h.1, all2_cell h.2⟩
theorem lend_same {m : Nat → Option Blk} {xs ys : List AV} (e : ys = xs) (h : ys.all AV.isCell = true) : LendT m (.agg xs) (.agg ys) := by subst e; exact all2_cell h
theorem la_bor {m : Nat → Option Blk} {n : Nat} {x : AV} (h : x.isCell = true) : LendA m n x.bor x := by
  cases x with
  | lit v => exact la_lit rfl
  | row o sz es => exact la_row rfl rfl
  | _ => cases h
theorem all2_bor {m : Nat → Option Blk} {n : Nat} : ∀ {xs : List AV}, xs.all AV.isCell = true → all2 (LendA m n) (xs.map AV.bor) xs
  | [], _ => trivial
  | x :: xs, h => by
    simp only [List.all_cons, Bool.and_eq_true] at h
    exact ⟨la_bor h.1, all2_bor h.2⟩
theorem lend_bor {m : Nat → Option Blk} {xs ys : List AV} (e : xs = ys.map AV.bor) (h : ys.all AV.isCell = true) : LendT m (.agg xs) (.agg ys) := by subst e; exact all2_bor h
theorem lend_dead {m : Nat → Option Blk} {t : T} : LendT m t .dead := by cases t <;> trivial
theorem la_fn {m : Nat → Option Blk} {n : Nat} {f f' : FuncId} {caps caps' : List AV} (h : f' = f) (h2 : all2 (LendA m n) caps caps') : LendA m (n + 1) (.fn f caps) (.fn f' caps') := ⟨h, h2⟩
theorem at_mid {α : Type} {A B : List α} {x : α} {i : Nat} (h : A.length = i) : (A ++ x :: B)[i]? = some x := by subst h; simp
theorem set_mid {α : Type} {A B : List α} {x y : α} {i : Nat} (h : A.length = i) : A ++ y :: B = (A ++ x :: B).set i y := by subst h; simp
theorem at_eq {α : Type} {es A B : List α} {x : α} {i : Nat} (h : es = A ++ x :: B) (hl : A.length = i) : es[i]? = some x := by rw [h]; exact at_mid hl
theorem set_eq {α : Type} {es A B : List α} {x y : α} {i : Nat} (h : es = A ++ x :: B) (hl : A.length = i) : A ++ y :: B = es.set i y := by rw [h]; exact set_mid hl
theorem at_map {α β : Type} {f : α → β} {l : List α} {i : Nat} (h : i < l.length) : (l.map f)[i]? = some (f l[i]) := by simp [h]
theorem closeTs_cons {m : Nat → Option Blk} {x y : Bool × List AV} {xs ys : List (Bool × List AV)} (h0 : x.1 = y.1) (h : closeL m x.2 y.2) (h' : closeTs m xs ys) : closeTs m (x :: xs) (y :: ys) := ⟨h0, h, h'⟩
theorem nbRow_map {α : Type} {f : α → List AV} (h : ∀ x, (f x).all (AV.nb 5) = true) (l : List α) : nbRow (l.map f) = true := by
  simp only [nbRow, List.all_eq_true, List.mem_map, forall_exists_index, and_imp]
  rintro e x _ rfl
  exact List.all_eq_true.1 (h x)
theorem cell_only {l : List Nat} {x : AV} (h : x.isCell = true) : x.only l = true := by cases x <;> first | rfl | cases h
theorem onlyRow {l : List Nat} {es : List (List AV)} (h : cellRow es = true) : (es.all fun e => e.all (AV.only l)) = true := by
  simp only [cellRow, List.all_eq_true] at h
  simp only [List.all_eq_true]
  exact fun e he x hx => cell_only (h e he x hx)
theorem only_mid {l : List Nat} {p : Bool} {sz : Nat} {A B : List (List AV)} {e : List AV} (hA : cellRow A = true) (hB : cellRow B = true) (he : e.all (AV.only l) = true) : (Blk.row p sz (A ++ e :: B)).only l = true := by
  simp only [Blk.only, List.all_append, List.all_cons, Bool.or_eq_true, Bool.and_eq_true]
  exact .inr ⟨onlyRow hA, he, onlyRow hB⟩
theorem onm_cons {l : List Nat} {s : Nat} {k : Blk} {ml : List (Nat × Blk)} (h : k.only l = true) (h' : (ml.all fun p => p.2.only l) = true) : (((s, k) :: ml).all fun p => p.2.only l) = true := by simp [h, h']
theorem onm_nil {l : List Nat} : (([] : List (Nat × Blk)).all fun p => p.2.only l) = true := rfl
theorem allb_nil {α : Type} {p : α → Bool} : ([] : List α).all p = true := rfl
theorem allb_cons {α : Type} {p : α → Bool} {x : α} {xs : List α} (h : p x = true) (h' : xs.all p = true) : (x :: xs).all p = true := by simp [h, h']
theorem sf_nb {x : AV} (h : x.nb 5 = true) : (x.nb 5 || x.safe) = true := by rw [h]; rfl
theorem sf_rows {es : List (List AV)} (h : nbRow es = true) : (es.all fun e => e.all fun x => x.nb 5 || x.safe) = true := by
  simp only [nbRow, List.all_eq_true] at h
  simp only [List.all_eq_true]
  intro e he x hx
  rw [h e he x hx]; rfl
theorem sf_row {p : Bool} {sz : Nat} {es : List (List AV)} (h : nbRow es = true) : (Blk.row p sz es).safe = true := sf_rows h
theorem sf_mid {p : Bool} {sz : Nat} {A B : List (List AV)} {e : List AV} (hA : nbRow A = true) (hB : nbRow B = true) (he : (e.all fun x => x.nb 5 || x.safe) = true) : (Blk.row p sz (A ++ e :: B)).safe = true := by
  simp only [Blk.safe, List.all_append, List.all_cons, Bool.and_eq_true]
  exact ⟨sf_rows hA, he, sf_rows hB⟩
theorem sfm_cons {s : Nat} {k : Blk} {ml : List (Nat × Blk)} (h : k.safe = true) (h' : (ml.all fun p => p.2.safe) = true) : (((s, k) :: ml).all fun p => p.2.safe) = true := by simp [h, h']
theorem sfm_nil : (([] : List (Nat × Blk)).all fun p => p.2.safe) = true := rfl
theorem nbRows_cons {sz : Nat} {es : List (List AV)} {bs : List (Nat × List (List AV))} (h : nbRow es = true) (h' : nbRows bs = true) : nbRows ((sz, es) :: bs) = true := by simp only [nbRows, List.all_cons, Bool.and_eq_true]; exact ⟨h, h'⟩
theorem nbRows_nil : nbRows [] = true := rfl
theorem hasRows_nil {m : Nat → Option Blk} : hasRows m [] [] := trivial
theorem hasRows_cons {m : Nat → Option Blk} {s : Nat} {ss : List Nat} {b : Nat × List (List AV)} {bs : List (Nat × List (List AV))} (h : m s = some (.row true b.1 b.2)) (h' : hasRows m ss bs) : hasRows m (s :: ss) (b :: bs) := ⟨h, h'⟩
theorem rens_nil {ss : List Nat} : RenTs ss [] [] := trivial
theorem rens_cons {ss : List Nat} {x y : T} {xs ys : List T} (h : RenT ss x y) (h' : RenTs ss xs ys) : RenTs ss (x :: xs) (y :: ys) := ⟨h, h'⟩
theorem ren_one {ss : List Nat} {x y : AV} (h : RenA ss x y) : RenT ss (.one x) (.one y) := h
theorem ren_agg {ss : List Nat} {xs ys : List AV} (h : all2 (RenA ss) xs ys) : RenT ss (.agg xs) (.agg ys) := h
theorem ren_int {ss : List Nat} {k : IntKind} {a b : Int} (h : b = a) : RenA ss (.lit (.int k a)) (.lit (.int k b)) := by subst h; exact rfl
/-- The arguments of a law: rows are named by their values, and told at places from 0 on. -/
def litA (u : Nat → Value) (i : Nat) : AV → AV
  | .row _ _ _ => .lit (u i)
  | x => x
def litL (u : Nat → Value) : Nat → List AV → List AV
  | _, [] => []
  | i, x :: xs => litA u i x :: litL u (i + 1) xs
def T.wid : T → Nat
  | .one _ => 1
  | .agg xs => xs.length
  | _ => 0
def litT (u : Nat → Value) (i : Nat) : T → T
  | .one x => .one (litA u i x)
  | .agg xs => .agg (litL u i xs)
  | t => t
def litTs (u : Nat → Value) : Nat → List T → List T
  | _, [] => []
  | i, t :: ts => litT u i t :: litTs u (i + t.wid) ts
def flatT : T → List AV
  | .one x => [x]
  | .agg xs => xs
  | _ => []
def flatTs : List T → List AV
  | [] => []
  | t :: ts => flatT t ++ flatTs ts
def parM (u : Nat → Value) (args : List T) (s : Nat) : Option Blk := match (flatTs args)[s]? with
  | some (.row o sz es) => some (.par (u s) (.row o sz es))
  | _ => none
def flatV : List T → List Value → List Value
  | .one _ :: ts, v :: vs => v :: flatV ts vs
  | .agg _ :: ts, .agg us :: vs => us.toList ++ flatV ts vs
  | _ :: ts, _ :: vs => flatV ts vs
  | _, _ => []

section
variable {P : Program} {w : World} {I : Nat → Prop}
theorem litA_ok {c : Ctx} (hc : ∀ b, I b → c.I b) {u : Nat → Value} {i : Nat} {x : AV} {v : Value} (h : R (c0 I) w x v) (hu : u i = v) : R c w (litA u i x) v := by
  have h' : R c w x v := h.mono (fun s j hs => by cases hs) hc (fun _ _ => rfl)
  cases x <;> first | exact h' | (subst hu; exact .lit _)
theorem litL_ok {c : Ctx} (hc : ∀ b, I b → c.I b) {u : Nat → Value} : ∀ {xs : List AV} {vs : List Value} {i : Nat}, RL (c0 I) w xs vs → (∀ j v, vs[j]? = some v → u (i + j) = v) → RL c w (litL u i xs) vs
  | [], [], _, _, _ => trivial
  | x :: xs, v :: vs, i, h, hu => ⟨⟨litA_ok hc h.1.1 (hu 0 v rfl), h.1.2⟩, litL_ok hc h.2 fun j v' hv => by have := hu (j + 1) v' (by simpa using hv); rw [show i + 1 + j = i + (j + 1) by omega]; exact this⟩
theorem litTs_ok {c : Ctx} (hc : ∀ b, I b → c.I b) {u : Nat → Value} : ∀ {ts : List T} {vs : List Value} {i : Nat}, (ts.all fun t => match t with | .one _ => true | .agg _ => true | _ => false) = true → RTL (c0 I) w ts vs → (∀ j v, (flatV ts vs)[j]? = some v → u (i + j) = v) → RTL c w (litTs u i ts) vs
  | [], [], _, _, _, _ => trivial
  | .one x :: ts, v :: vs, i, ha, h, hu => ⟨⟨litA_ok hc h.1.1 (hu 0 v rfl), h.1.2⟩, litTs_ok hc (by simpa using ha) h.2 fun j v' hv => by have := hu (j + 1) v' (by simpa [flatV] using hv); rw [show i + T.wid (.one x) + j = i + (j + 1) by simp only [T.wid]; omega]; exact this⟩
  | .agg xs :: ts, .agg us :: vs, i, ha, h, hu => ⟨litL_ok hc h.1 fun j v' hv => hu j v' (by simp only [flatV]; rw [List.getElem?_append_left (by exact (List.getElem?_eq_some_iff.1 hv).1)]; exact hv), litTs_ok hc (by simpa using ha) h.2 fun j v' hv => by
      have hl : xs.length = us.toList.length := RL.length h.1
      have := hu (us.toList.length + j) v' (by simp only [flatV]; rw [List.getElem?_append_right (by omega)]; simpa using hv)
      rw [show i + T.wid (.agg xs) + j = i + (us.toList.length + j) by simp only [T.wid]; omega]; exact this⟩
theorem flat_ok {c : Ctx} : ∀ {ts : List T} {vs : List Value}, (ts.all fun t => match t with | .one _ => true | .agg _ => true | _ => false) = true → RTL c w ts vs → RL c w (flatTs ts) (flatV ts vs)
  | [], [], _, _ => trivial
  | .one x :: ts, v :: vs, ha, h => ⟨h.1, flat_ok (by simpa using ha) h.2⟩
  | .agg xs :: ts, .agg us :: vs, ha, h => by
    simp only [flatTs, flatT, flatV]
    have h2 := flat_ok (ts := ts) (vs := vs) (by simpa using ha) h.2
    have key : ∀ {xs ys : List AV} {vs us : List Value}, RL c w xs vs → RL c w ys us → RL c w (xs ++ ys) (vs ++ us) := by
      intro xs
      induction xs with
      | nil => intro ys vs us h h'; cases vs with | nil => exact h' | cons => exact h.elim
      | cons x xs ih => intro ys vs us h h'; cases vs with | nil => exact h.elim | cons v vs => exact ⟨h.1, ih h.2 h'⟩
    exact key h.1 h2

/-- THE RULE OF A LAW: as the rule of a function; its arguments' rows are kept by their values over all that is written. -/
theorem law_of_vc {E : Tab} (hE : E.ok P) {f : FuncId} {fn : Func} {x : Code} {args : List T} {r : T} (hmix : P.follows .mixedOrders = true) (hf : P.funcs[f]? = some fn) (hb : fn.body = some x) (hname : (fn.name == "runtime.NumGoroutine") = false)
    (hok : okCode E fn.ntmps x = true) (hlen : args.length ≤ fn.ntmps) (hnb : r.nb = true) (ha : (args.all fun t => match t with | .one _ => true | .agg _ => true | _ => false) = true)
    (h : ∀ u : Nat → Value, vcCode P E x (fin E fn.results.toList r) (fun _ _ => False) (fin E fn.results.toList r) ⟨fun t => (litTs u 0 args).getD t .dead, parM u args⟩) : Fun1 P f args r := by
  refine ⟨⟨fn, hf, by simp [hb], hname⟩, hnb, fun w I vs hI hgl hargs => ?_⟩
  let u : Nat → Value := fun i => (flatV args vs.toList).getD i default
  have hu : ∀ j v, (flatV args vs.toList)[j]? = some v → u j = v := fun j v hv => by simp [u, List.getD_eq_getElem?_getD, hv]
  let c : Ctx := ⟨fun s => if (parM u args s).isSome then some .nil else none, fun k => k < w.heap.size⟩
  have hargs' : RTL c w (litTs u 0 args) vs.toList := litTs_ok (c := c) hI ha hargs (fun j v hv => by rw [Nat.zero_add]; exact hu j v hv)
  have hll : ∀ {ts : List T} {i : Nat}, (litTs u i ts).length = ts.length := by
    intro ts
    induction ts with
    | nil => intro i; rfl
    | cons t ts ih => intro i; simp [litTs, ih]
  have hvl : vs.toList.length = args.length := by
    have : ∀ {ts : List T} {us : List Value}, RTL (c0 I) w ts us → us.length = ts.length := by
      intro ts
      induction ts with
      | nil => intro us h; cases us with | nil => rfl | cons => exact h.elim
      | cons t ts ih => intro us h; cases us with | nil => exact h.elim | cons u us => simp [ih h.2]
    exact this hargs
  have hat : ∀ {ts : List T} {us : List Value}, RTL c w ts us → ∀ t : Nat, RT c w (ts.getD t .dead) (us.getD t undef) := by
    intro ts
    induction ts with
    | nil => intro us h t; trivial
    | cons t ts ih =>
      intro us h k
      cases us with
      | nil => exact h.elim
      | cons u us =>
        cases k with
        | zero => exact h.1
        | succ k => exact ih h.2 k
  refine calls_of_wp hf hb ?_
  have hH : H w (fun _ => False) fn.ntmps ⟨fun t => (litTs u 0 args).getD t .dead, parM u args⟩ { tmps := vs ++ Array.replicate (fn.ntmps - vs.size) undef, defers := [] } w c (fun _ _ => False) := by
    have hvs : vs.size = args.length := by simpa using hvl
    refine { gl := hgl.mono (fun b hb => ⟨hI b hb, fun h => h⟩) (Nat.le_refl _) (fun _ _ => rfl), keeps := ⟨rfl, rfl, rfl, Nat.le_refl _, fun _ _ _ => rfl, fun _ => Nat.le_refl _⟩, size := by simp; omega, defers := rfl, tm := fun t => ?_, mem := fun s k hk => ?_, dom := fun s hs => ?_, disj := fun _ _ _ h => h.elim, new := fun _ _ h => h.elim, imm := fun _ hk => hk, inn := fun _ _ h => h.elim, par := fun s v x hk => ?_ }
    · have := hat hargs' t
      by_cases ht : t < vs.size
      · have e : (vs ++ Array.replicate (fn.ntmps - vs.size) undef).getD t undef = vs.toList.getD t undef := by
          rw [Array.getD_eq_getD_getElem?, Array.getElem?_append_left ht]
          simp
        rw [e]; exact this
      · have e : (litTs u 0 args).getD t .dead = .dead := by rw [List.getD_eq_getElem?_getD, List.getElem?_eq_none (by rw [hll]; omega)]; rfl
        show RT _ _ ((litTs u 0 args).getD t .dead) _
        rw [e]; trivial
    · replace hk : parM u args s = some k := hk
      have hat0 : c.at_ s = some .nil := by simp [c, hk]
      unfold parM at hk
      split at hk
      · cases hk; exact ⟨hat0, fun _ h => h⟩
      · cases hk
    · replace hs : parM u args s = none := hs
      exact ⟨by simp [c, hs], fun _ h => h⟩
    · replace hk : parM u args s = some (.par v x) := hk
      unfold parM at hk
      split at hk
      · rename_i o sz es hg
        · cases hk
          refine ⟨rfl, ?_, fun k hk => hk.1⟩
          have hfl := flat_ok ha hargs
          have hi := (List.getElem?_eq_some_iff.1 hg).1
          have hl := RL.length hfl
          have hv : (flatV args vs.toList)[s]? = some ((flatV args vs.toList)[s]'(by omega)) := by simp
          have := (hfl.at hg hv).1
          rw [hu _ _ hv]
          exact R.free (c := c0 I) (fun b (hb : I b) => (show oldB w (fun _ => False) b from ⟨hI b hb, fun h => h⟩)) (fun _ _ => rfl) this rfl
      · cases hk
  have done : ∀ σ' a' w', Holds w (fun _ => False) fn.ntmps σ' a' w' → fin E fn.results.toList r σ' → a'.defers = [] ∧ ∃ V, (results fn a'.tmps).run P w' = .ok V w' ∧ ∃ v F, Ending.returned V = .returned v ∧ ROT' (c0 I) w' F r v ∧ (∀ k, F k → w.heap.size ≤ k ∧ k < w'.heap.size) ∧ Bel w.heap.size w w' := by
    rintro σ' a' w' ⟨c', F', h'⟩ hf'
    obtain ⟨V, h1, G, h2, h3⟩ := fin_ok hE h' hf'
    refine ⟨h'.defers, V, h1, V, G, rfl, h2.nb hnb, fun k hk => ?_, ⟨h'.keeps.os, h'.keeps.tape, h'.keeps.output, h'.keeps.size, fun k hk => h'.keeps.block k hk (fun h => h), h'.keeps.dr⟩⟩
    obtain ⟨s, hs⟩ := h3 k hk
    have := h'.new s k hs
    exact ⟨this.1.resolve_right (fun h => h), this.2⟩
  exact vc_ok hE hmix x (n := fn.ntmps) (w0 := w) (L := fun _ => False) hok (fun σ' a' w' h1 h2 => done σ' a' w' h1 h2) (fun _ _ _ _ _ h => h.elim) (fun σ' a' w' h1 h2 => done σ' a' w' h1 h2) (h u) ⟨_, _, hH⟩
end
/-- A nil slice is a row of no elements, at a place of its own. -/
theorem weak_nil {σ τ : AS} (t s sz : Nat) (ht : σ.tm t = .one (.lit (.slice none 0 0))) (hs : σ.mem s = none) (hw : Weak ⟨fun k => if k = t then .one (.loc s 0 0) else σ.tm k, (σ.add s (.row true sz [])).mem⟩ τ) : Weak σ τ := by
  rintro w0 L n a w ⟨c, F, h⟩
  have h1 := h.addSite' (s := s) (k := .row true sz []) (i := .nil) (G := fun _ => False) hs (fun _ hb => hb.elim) (fun _ _ hb => hb.elim) (.inl ⟨by simp [Ctx.add], rfl, fun _ h => h⟩)
  refine hw _ _ _ _ _ ⟨_, _, h1.keeps, h1.size, h1.defers, fun k => ?_, h1.mem, h1.dom, h1.disj, h1.new, h1.imm, h1.inn, h1.par, h1.gl⟩
  by_cases e : k = t
  · subst e
    have h2 := h.tm k
    rw [ht] at h2
    simp only [if_true]
    have h3 := one_lit h2
    rw [h3]
    exact ⟨.locnil (by simp [Ctx.add]), rfl⟩
  · simp only [if_neg e]
    exact h1.tm k
end Go.Proofs.YtdbnppipgblajaaGreatDoor
namespace Go.Proofs.YtdbnppipgblajaaGreatDoor
open Go.RowKit
set_option linter.unusedSimpArgs false
set_option linter.unusedVariables false
def inI (n : Int) : Prop := -9223372036854775808 ≤ n ∧ n ≤ 9223372036854775807
def eInt (n : Int) : List AV := [.lit (.int .i64 n)]
def eStr (s : ByteArray) : List AV := [.lit (.string s)]
def markLoop (k : Nat) (out : ByteArray) : ByteArray := if _h : k = 0 then out else markLoop (k / 10) (⟨#[UInt8.ofNat (48 + k % 10)]⟩ ++ out)
termination_by k
decreasing_by omega
def markStr (k : Nat) : ByteArray := ⟨#[109]⟩ ++ markLoop k ⟨#[]⟩
def mrkI (_ : Int) (k : Nat) : Int := (k : Int)
def mrkT (_ : ByteArray) (k : Nat) : ByteArray := markStr k
def mkL {α : Type} (mk : α → Nat → α) (cn : α → Nat) : List α → Nat → List α
  | [], _ => []
  | x :: l, k => mk x k :: mkL mk cn l (k + cn x)
def cnL {α : Type} (cn : α → Nat) (l : List α) : Nat := (l.map cn).sum
def wL {α : Type} (wt : α → Nat) (l : List α) : Nat := l.length + (l.map wt).sum
theorem mkL_length {α : Type} {mk : α → Nat → α} {cn : α → Nat} : ∀ {l : List α} {k : Nat}, (mkL mk cn l k).length = l.length
  | [], _ => rfl
  | _ :: l, k => by simp [mkL, mkL_length (l := l)]
theorem mkL_append {α : Type} {mk : α → Nat → α} {cn : α → Nat} : ∀ {l l' : List α} {k : Nat}, mkL mk cn (l ++ l') k = mkL mk cn l k ++ mkL mk cn l' (k + cnL cn l)
  | [], _, k => by simp [mkL, cnL]
  | x :: l, l', k => by simp [mkL, cnL, mkL_append (l := l), Nat.add_assoc]
theorem cnL_append {α : Type} {cn : α → Nat} {l l' : List α} : cnL cn (l ++ l') = cnL cn l + cnL cn l' := by simp [cnL]
theorem sum_take_le {α : Type} (f : α → Nat) (l : List α) (i : Nat) : ((l.take i).map f).sum ≤ (l.map f).sum := by
  conv => rhs; rw [← List.take_append_drop i l]
  rw [List.map_append, List.sum_append]; omega
theorem cnL_take_succ {α : Type} {cn : α → Nat} {l : List α} {i : Nat} (h : i < l.length) : cnL cn (l.take (i + 1)) = cnL cn (l.take i) + cn l[i] := by rw [List.take_succ_eq_append_getElem h, cnL_append]; simp [cnL]
theorem cnL_take_le {α : Type} {cn : α → Nat} {l : List α} {i : Nat} : cnL cn (l.take i) ≤ cnL cn l := sum_take_le cn l i
theorem mkL_take_succ {α : Type} {mk : α → Nat → α} {cn : α → Nat} {l : List α} {i k : Nat} (h : i < l.length) : mkL mk cn (l.take (i + 1)) k = mkL mk cn (l.take i) k ++ [mk l[i] (k + cnL cn (l.take i))] := by rw [List.take_succ_eq_append_getElem h, mkL_append]; rfl
theorem mkL_get {α : Type} {mk : α → Nat → α} {cn : α → Nat} {l : List α} {i k : Nat} (h : i < l.length) : (mkL mk cn l k)[i]? = some (mk l[i] (k + cnL cn (l.take i))) := by
  have h1 : l = l.take i ++ l[i] :: l.drop (i + 1) := by rw [← List.drop_eq_getElem_cons h, List.take_append_drop]
  conv => lhs; rw [h1]
  rw [mkL_append]
  rw [List.getElem?_append_right (by rw [mkL_length, List.length_take]; omega)]
  rw [mkL_length, List.length_take, show i - min i l.length = 0 by omega]
  rfl
def szF (w : Nat) (left : Int) : Int := if (w : Int) ≤ left then left - w else -1
theorem szF_or (w : Nat) (left : Int) : ((w : Int) ≤ left ∧ szF w left = left - w) ∨ (left < w ∧ szF w left = -1) := by unfold szF; split <;> omega
theorem wsum_take_succ {α : Type} {f : α → Nat} {l : List α} {i : Nat} (h : i < l.length) : ((l.take (i + 1)).map f).sum = ((l.take i).map f).sum + f l[i] := by rw [List.take_succ_eq_append_getElem h, List.map_append, List.sum_append]; rfl
structure DStored where
  name : ByteArray
  text : ByteArray
  synced : Int
def DStored.enc (x : DStored) : List AV := [.lit (.string x.name), .lit (.string x.text), .lit (.int .i64 x.synced)]
def DStored.ok (x : DStored) : Prop := (x.name.size ≤ 4294967296) ∧ (x.text.size ≤ 4294967296) ∧ (inI x.synced)
def DStored.it (x : DStored) : Prop := (x.name.size ≤ 9223372036854775807) ∧ (x.text.size ≤ 9223372036854775807) ∧ (inI x.synced)
def DStored.wt (x : DStored) : Nat := x.name.size + x.text.size
def DStored.mkE (x : DStored) (k : Nat) : DStored := ⟨mrkT x.name (k), mrkT x.text (k + 1), mrkI x.synced (k + 1 + 1)⟩
def DStored.cnE (x : DStored) : Nat := 1 + 1 + 1
structure DDrive where
  files : List DStored
  room : Int
def DDrive.enc (x : DDrive) : List AV := [.row true 3 (x.files.map DStored.enc), .lit (.int .i64 x.room)]
def DDrive.ok (x : DDrive) : Prop := (x.files.length ≤ 4294967296 ∧ ∀ y ∈ x.files, y.ok) ∧ (inI x.room)
def DDrive.it (x : DDrive) : Prop := (x.files.length ≤ 9223372036854775807 ∧ ∀ y ∈ x.files, y.it) ∧ (inI x.room)
def DDrive.wt (x : DDrive) : Nat := wL DStored.wt x.files
def DDrive.mkE (x : DDrive) (k : Nat) : DDrive := ⟨(mkL DStored.mkE DStored.cnE) x.files (k), mrkI x.room (k + (cnL DStored.cnE) x.files)⟩
def DDrive.cnE (x : DDrive) : Nat := (cnL DStored.cnE) x.files + 1
def DDrive.cnV (x : DDrive) : Nat := (cnL DStored.cnE) x.files
structure DArray where
  k : Int
  m : Int
  drives : List DDrive
def DArray.enc (x : DArray) : List AV := [.lit (.int .i64 x.k), .lit (.int .i64 x.m), .row true 2 (x.drives.map DDrive.enc)]
def DArray.ok (x : DArray) : Prop := (inI x.k) ∧ (inI x.m) ∧ (x.drives.length ≤ 4294967296 ∧ ∀ y ∈ x.drives, y.ok)
def DArray.it (x : DArray) : Prop := (inI x.k) ∧ (inI x.m) ∧ (x.drives.length ≤ 9223372036854775807 ∧ ∀ y ∈ x.drives, y.it)
def DArray.wt (x : DArray) : Nat := wL DDrive.wt x.drives
def DArray.mkE (x : DArray) (k : Nat) : DArray := ⟨mrkI x.k (k), mrkI x.m (k + 1), (mkL DDrive.mkE DDrive.cnE) x.drives (k + 1 + 1)⟩
def DArray.cnE (x : DArray) : Nat := 1 + 1 + (cnL DDrive.cnE) x.drives
def DArray.cnV (x : DArray) : Nat := (cnL DDrive.cnE) x.drives
structure DOp where
  kind : Int
  name : ByteArray
  to : ByteArray
  text : ByteArray
def DOp.enc (x : DOp) : List AV := [.lit (.int .i64 x.kind), .lit (.string x.name), .lit (.string x.to), .lit (.string x.text)]
def DOp.ok (x : DOp) : Prop := (inI x.kind) ∧ (x.name.size ≤ 4294967296) ∧ (x.to.size ≤ 4294967296) ∧ (x.text.size ≤ 4294967296)
def DOp.it (x : DOp) : Prop := (inI x.kind) ∧ (x.name.size ≤ 9223372036854775807) ∧ (x.to.size ≤ 9223372036854775807) ∧ (x.text.size ≤ 9223372036854775807)
def DOp.wt (x : DOp) : Nat := x.name.size + x.to.size + x.text.size
def DOp.mkE (x : DOp) (k : Nat) : DOp := ⟨mrkI x.kind (k), mrkT x.name (k + 1), mrkT x.to (k + 1 + 1), mrkT x.text (k + 1 + 1 + 1)⟩
def DOp.cnE (x : DOp) : Nat := 1 + 1 + 1 + 1
structure DStep where
  drive : Int
  op : DOp
def DStep.enc (x : DStep) : List AV := [.lit (.int .i64 x.drive), .lit (.int .i64 x.op.kind), .lit (.string x.op.name), .lit (.string x.op.to), .lit (.string x.op.text)]
def DStep.ok (x : DStep) : Prop := (inI x.drive) ∧ (x.op.ok)
def DStep.it (x : DStep) : Prop := (inI x.drive) ∧ (x.op.it)
def DStep.wt (x : DStep) : Nat := x.op.wt
def DStep.mkE (x : DStep) (k : Nat) : DStep := ⟨mrkI x.drive (k), ⟨mrkI x.op.kind (k + 1), mrkT x.op.name (k + 1 + 1), mrkT x.op.to (k + 1 + 1 + 1), mrkT x.op.text (k + 1 + 1 + 1 + 1)⟩⟩
def DStep.cnE (x : DStep) : Nat := 1 + 1 + 1 + 1 + 1
structure DDriveOut where
  drive : DDrive
  code : Int
def DDriveOut.enc (x : DDriveOut) : List AV := [.row true 3 (x.drive.files.map DStored.enc), .lit (.int .i64 x.drive.room), .lit (.int .i64 x.code)]
def DDriveOut.ok (x : DDriveOut) : Prop := (x.drive.ok) ∧ (inI x.code)
def DDriveOut.it (x : DDriveOut) : Prop := (x.drive.it) ∧ (inI x.code)
def DDriveOut.wt (x : DDriveOut) : Nat := x.drive.wt
def DDriveOut.mkE (x : DDriveOut) (k : Nat) : DDriveOut := ⟨⟨(mkL DStored.mkE DStored.cnE) x.drive.files (k), mrkI x.drive.room (k + (cnL DStored.cnE) x.drive.files)⟩, mrkI x.code (k + (cnL DStored.cnE) x.drive.files + 1)⟩
def DDriveOut.cnE (x : DDriveOut) : Nat := (cnL DStored.cnE) x.drive.files + 1 + 1
def DDriveOut.cnV (x : DDriveOut) : Nat := (cnL DStored.cnE) x.drive.files
structure DArrayOut where
  array : DArray
  done : Int
  code : Int
def DArrayOut.enc (x : DArrayOut) : List AV := [.lit (.int .i64 x.array.k), .lit (.int .i64 x.array.m), .row true 2 (x.array.drives.map DDrive.enc), .lit (.int .i64 x.done), .lit (.int .i64 x.code)]
def DArrayOut.ok (x : DArrayOut) : Prop := (x.array.ok) ∧ (inI x.done) ∧ (inI x.code)
def DArrayOut.it (x : DArrayOut) : Prop := (x.array.it) ∧ (inI x.done) ∧ (inI x.code)
def DArrayOut.wt (x : DArrayOut) : Nat := x.array.wt
def DArrayOut.mkE (x : DArrayOut) (k : Nat) : DArrayOut := ⟨⟨mrkI x.array.k (k), mrkI x.array.m (k + 1), (mkL DDrive.mkE DDrive.cnE) x.array.drives (k + 1 + 1)⟩, mrkI x.done (k + 1 + 1 + (cnL DDrive.cnE) x.array.drives), mrkI x.code (k + 1 + 1 + (cnL DDrive.cnE) x.array.drives + 1)⟩
def DArrayOut.cnE (x : DArrayOut) : Nat := 1 + 1 + (cnL DDrive.cnE) x.array.drives + 1 + 1
def DArrayOut.cnV (x : DArrayOut) : Nat := (cnL DDrive.cnE) x.array.drives
theorem nb_rowc {n sz : Nat} {es : List (List AV)} : AV.nb (n + 1) (.row true sz es) = es.all fun e => e.all (AV.nb n) := rfl
theorem nb_lit (n : Nat) (v : Value) : AV.nb n (.lit v) = true := by cases n <;> rfl
theorem nb_map {α : Type} {f : α → List AV} {n : Nat} {sz : Nat} (h : ∀ x, (f x).all (AV.nb n) = true) (l : List α) : AV.nb (n + 1) (.row true sz (l.map f)) = true := by
  rw [nb_rowc]; simp only [List.all_eq_true, List.mem_map, forall_exists_index, and_imp]
  rintro e x _ rfl
  exact List.all_eq_true.1 (h x)
theorem DStored.enc_nbn (n : Nat) (x : DStored) : x.enc.all (AV.nb (n + 0)) = true := by
  simp only [DStored.enc, List.all_cons, List.all_nil, Bool.and_true, Bool.and_eq_true]
  exact ⟨nb_lit _ _, nb_lit _ _, nb_lit _ _⟩
theorem DStored.enc_nb (x : DStored) : x.enc.all (AV.nb 5) = true := DStored.enc_nbn 5 x
theorem DDrive.enc_nbn (n : Nat) (x : DDrive) : x.enc.all (AV.nb (n + 1)) = true := by
  simp only [DDrive.enc, List.all_cons, List.all_nil, Bool.and_true, Bool.and_eq_true]
  exact ⟨nb_map (n := n + 0) (fun y => DStored.enc_nbn (n + 0) y) _, nb_lit _ _⟩
theorem DDrive.enc_nb (x : DDrive) : x.enc.all (AV.nb 5) = true := DDrive.enc_nbn 4 x
theorem DArray.enc_nbn (n : Nat) (x : DArray) : x.enc.all (AV.nb (n + 2)) = true := by
  simp only [DArray.enc, List.all_cons, List.all_nil, Bool.and_true, Bool.and_eq_true]
  exact ⟨nb_lit _ _, nb_lit _ _, nb_map (n := n + 1) (fun y => DDrive.enc_nbn (n + 0) y) _⟩
theorem DArray.enc_nb (x : DArray) : x.enc.all (AV.nb 5) = true := DArray.enc_nbn 3 x
theorem DOp.enc_nbn (n : Nat) (x : DOp) : x.enc.all (AV.nb (n + 0)) = true := by
  simp only [DOp.enc, List.all_cons, List.all_nil, Bool.and_true, Bool.and_eq_true]
  exact ⟨nb_lit _ _, nb_lit _ _, nb_lit _ _, nb_lit _ _⟩
theorem DOp.enc_nb (x : DOp) : x.enc.all (AV.nb 5) = true := DOp.enc_nbn 5 x
theorem DStep.enc_nbn (n : Nat) (x : DStep) : x.enc.all (AV.nb (n + 0)) = true := by
  simp only [DStep.enc, List.all_cons, List.all_nil, Bool.and_true, Bool.and_eq_true]
  exact ⟨nb_lit _ _, nb_lit _ _, nb_lit _ _, nb_lit _ _, nb_lit _ _⟩
theorem DStep.enc_nb (x : DStep) : x.enc.all (AV.nb 5) = true := DStep.enc_nbn 5 x
theorem DDriveOut.enc_nbn (n : Nat) (x : DDriveOut) : x.enc.all (AV.nb (n + 1)) = true := by
  simp only [DDriveOut.enc, List.all_cons, List.all_nil, Bool.and_true, Bool.and_eq_true]
  exact ⟨nb_map (n := n + 0) (fun y => DStored.enc_nbn (n + 0) y) _, nb_lit _ _, nb_lit _ _⟩
theorem DDriveOut.enc_nb (x : DDriveOut) : x.enc.all (AV.nb 5) = true := DDriveOut.enc_nbn 4 x
theorem DArrayOut.enc_nbn (n : Nat) (x : DArrayOut) : x.enc.all (AV.nb (n + 2)) = true := by
  simp only [DArrayOut.enc, List.all_cons, List.all_nil, Bool.and_true, Bool.and_eq_true]
  exact ⟨nb_lit _ _, nb_lit _ _, nb_map (n := n + 1) (fun y => DDrive.enc_nbn (n + 0) y) _, nb_lit _ _, nb_lit _ _⟩
theorem DArrayOut.enc_nb (x : DArrayOut) : x.enc.all (AV.nb 5) = true := DArrayOut.enc_nbn 3 x
theorem wL_len {α : Type} {f : α → Nat} {l : List α} : l.length ≤ wL f l := by unfold wL; omega
theorem mem_le_sum {α : Type} (f : α → Nat) : ∀ {l : List α} {y : α}, y ∈ l → f y ≤ (l.map f).sum
  | x :: l, y, h => by
    rcases List.mem_cons.1 h with rfl | h
    · simp
    · have := mem_le_sum f h; simp; omega
theorem wL_mem {α : Type} {f : α → Nat} {l : List α} {y : α} (h : y ∈ l) : f y ≤ wL f l := by have := mem_le_sum f h; unfold wL; omega
theorem cnL_le {α : Type} {cn wt : α → Nat} {A B C : Nat} (h : ∀ x, cn x ≤ A * wt x + B) (hA : A ≤ C) (hB : B ≤ C) : ∀ l : List α, cnL cn l ≤ C * wL wt l
  | [] => by simp [cnL]
  | x :: l => by
    have h1 := h x
    have h2 := cnL_le h hA hB l
    have h3 : A * wt x ≤ C * wt x := Nat.mul_le_mul_right _ hA
    have e1 : cnL cn (x :: l) = cn x + cnL cn l := by simp [cnL]
    have e2 : wL wt (x :: l) = 1 + wt x + wL wt l := by simp [wL]; omega
    rw [e1, e2, Nat.mul_add, Nat.mul_add]; omega
theorem DStored.ok_of (x : DStored) (hi : x.it) (hw : x.wt ≤ 4294967296) : x.ok := by
  have he : x.wt = x.name.size + x.text.size := rfl
  unfold DStored.it at hi
  unfold DStored.ok
  exact ⟨by omega, by omega, hi.2.2⟩
theorem DStored.cnE_le (x : DStored) : x.cnE ≤ 0 * x.wt + 3 := by
  have he : x.wt = x.name.size + x.text.size := rfl
  have hc : x.cnE = 1 + 1 + 1 := rfl
  omega
theorem okStoredS_of (l : List DStored) (hi : l.length ≤ 9223372036854775807 ∧ ∀ y ∈ l, y.it) (hw : wL DStored.wt l ≤ 4294967296) : l.length ≤ 4294967296 ∧ ∀ y ∈ l, y.ok := by
  refine ⟨Nat.le_trans wL_len hw, fun y hy => ?_⟩
  have h1 := hi.2 y hy
  have h2 := Nat.le_trans (wL_mem (f := DStored.wt) hy) hw
  exact DStored.ok_of y h1 h2
theorem hypStoredS_of (l : List DStored) (h : l.length ≤ 4294967296 ∧ ∀ y ∈ l, y.ok) : l.length ≤ 4611686018427387904 := by
  have := h.1; omega
theorem cnStoredS_le (l : List DStored) : cnL DStored.cnE l ≤ 3 * wL DStored.wt l := cnL_le (A := 0) (B := 3) (fun x => DStored.cnE_le x) (by decide) (by decide) l
theorem DDrive.ok_of (x : DDrive) (hi : x.it) (hw : x.wt ≤ 4294967296) : x.ok := by
  have he : x.wt = wL DStored.wt x.files := rfl
  unfold DDrive.it at hi
  unfold DDrive.ok
  exact ⟨okStoredS_of _ hi.1 (by omega), hi.2⟩
theorem DDrive.hyp_of (x : DDrive) (h : x.ok) : (x.files.length ≤ 4611686018427387904) := by
  unfold DDrive.ok at h
  exact hypStoredS_of _ h.1
theorem DDrive.cnE_le (x : DDrive) : x.cnE ≤ 3 * x.wt + 1 := by
  have he : x.wt = wL DStored.wt x.files := rfl
  have hc : x.cnE = (cnL DStored.cnE) x.files + 1 := rfl
  have := cnStoredS_le x.files
  omega
theorem DDrive.cnV_le (x : DDrive) : x.cnV ≤ 3 * x.wt := by
  have he : x.wt = wL DStored.wt x.files := rfl
  have hc : x.cnV = (cnL DStored.cnE) x.files := rfl
  have := cnStoredS_le x.files
  omega
theorem okDriveS_of (l : List DDrive) (hi : l.length ≤ 9223372036854775807 ∧ ∀ y ∈ l, y.it) (hw : wL DDrive.wt l ≤ 4294967296) : l.length ≤ 4294967296 ∧ ∀ y ∈ l, y.ok := by
  refine ⟨Nat.le_trans wL_len hw, fun y hy => ?_⟩
  have h1 := hi.2 y hy
  have h2 := Nat.le_trans (wL_mem (f := DDrive.wt) hy) hw
  exact DDrive.ok_of y h1 h2
theorem hypDriveS_of (l : List DDrive) (h : l.length ≤ 4294967296 ∧ ∀ y ∈ l, y.ok) : l.length ≤ 4611686018427387904 ∧ ∀ y ∈ l, (y.files.length ≤ 4611686018427387904) := by
  refine ⟨by have := h.1; omega, fun y hy => ?_⟩
  exact DDrive.hyp_of y (h.2 y hy)
theorem cnDriveS_le (l : List DDrive) : cnL DDrive.cnE l ≤ 3 * wL DDrive.wt l := cnL_le (A := 3) (B := 1) (fun x => DDrive.cnE_le x) (by decide) (by decide) l
theorem DArray.ok_of (x : DArray) (hi : x.it) (hw : x.wt ≤ 4294967296) : x.ok := by
  have he : x.wt = wL DDrive.wt x.drives := rfl
  unfold DArray.it at hi
  unfold DArray.ok
  exact ⟨hi.1, hi.2.1, okDriveS_of _ hi.2.2 (by omega)⟩
theorem DArray.hyp_of (x : DArray) (h : x.ok) : (x.drives.length ≤ 4611686018427387904 ∧ ∀ y ∈ x.drives, (y.files.length ≤ 4611686018427387904)) := by
  unfold DArray.ok at h
  exact hypDriveS_of _ h.2.2
theorem DArray.cnE_le (x : DArray) : x.cnE ≤ 3 * x.wt + 2 := by
  have he : x.wt = wL DDrive.wt x.drives := rfl
  have hc : x.cnE = 1 + 1 + (cnL DDrive.cnE) x.drives := rfl
  have := cnDriveS_le x.drives
  omega
theorem DArray.cnV_le (x : DArray) : x.cnV ≤ 3 * x.wt := by
  have he : x.wt = wL DDrive.wt x.drives := rfl
  have hc : x.cnV = (cnL DDrive.cnE) x.drives := rfl
  have := cnDriveS_le x.drives
  omega
theorem DOp.ok_of (x : DOp) (hi : x.it) (hw : x.wt ≤ 4294967296) : x.ok := by
  have he : x.wt = x.name.size + x.to.size + x.text.size := rfl
  unfold DOp.it at hi
  unfold DOp.ok
  exact ⟨hi.1, by omega, by omega, by omega⟩
theorem DOp.cnE_le (x : DOp) : x.cnE ≤ 0 * x.wt + 4 := by
  have he : x.wt = x.name.size + x.to.size + x.text.size := rfl
  have hc : x.cnE = 1 + 1 + 1 + 1 := rfl
  omega
theorem DStep.ok_of (x : DStep) (hi : x.it) (hw : x.wt ≤ 4294967296) : x.ok := by
  have he : x.wt = x.op.wt := rfl
  unfold DStep.it at hi
  unfold DStep.ok
  exact ⟨hi.1, DOp.ok_of _ hi.2 (by omega)⟩
theorem DStep.cnE_le (x : DStep) : x.cnE ≤ 0 * x.wt + 5 := by
  have he : x.wt = x.op.wt := rfl
  have hc : x.cnE = 1 + 1 + 1 + 1 + 1 := rfl
  have : x.op.wt = x.op.name.size + x.op.to.size + x.op.text.size := rfl
  omega
theorem hypStepS_of (l : List DStep) (h : l.length ≤ 4294967296 ∧ ∀ y ∈ l, y.ok) : l.length ≤ 4611686018427387904 := by
  have := h.1; omega
theorem DDriveOut.ok_of (x : DDriveOut) (hi : x.it) (hw : x.wt ≤ 4294967296) : x.ok := by
  have he : x.wt = x.drive.wt := rfl
  unfold DDriveOut.it at hi
  unfold DDriveOut.ok
  exact ⟨DDrive.ok_of _ hi.1 (by omega), hi.2⟩
theorem DDriveOut.hyp_of (x : DDriveOut) (h : x.ok) : ((x.drive.files.length ≤ 4611686018427387904)) := by
  unfold DDriveOut.ok at h
  exact DDrive.hyp_of _ h.1
theorem DDriveOut.cnE_le (x : DDriveOut) : x.cnE ≤ 3 * x.wt + 2 := by
  have he : x.wt = x.drive.wt := rfl
  have hc : x.cnE = (cnL DStored.cnE) x.drive.files + 1 + 1 := rfl
  have := cnStoredS_le x.drive.files
  have : x.drive.wt = wL DStored.wt x.drive.files := rfl
  omega
theorem DDriveOut.cnV_le (x : DDriveOut) : x.cnV ≤ 3 * x.wt := by
  have he : x.wt = x.drive.wt := rfl
  have hc : x.cnV = (cnL DStored.cnE) x.drive.files := rfl
  have := cnStoredS_le x.drive.files
  have : x.drive.wt = wL DStored.wt x.drive.files := rfl
  omega
theorem DArrayOut.ok_of (x : DArrayOut) (hi : x.it) (hw : x.wt ≤ 4294967296) : x.ok := by
  have he : x.wt = x.array.wt := rfl
  unfold DArrayOut.it at hi
  unfold DArrayOut.ok
  exact ⟨DArray.ok_of _ hi.1 (by omega), hi.2.1, hi.2.2⟩
theorem DArrayOut.hyp_of (x : DArrayOut) (h : x.ok) : ((x.array.drives.length ≤ 4611686018427387904 ∧ ∀ y ∈ x.array.drives, (y.files.length ≤ 4611686018427387904))) := by
  unfold DArrayOut.ok at h
  exact DArray.hyp_of _ h.1
theorem DArrayOut.cnE_le (x : DArrayOut) : x.cnE ≤ 3 * x.wt + 4 := by
  have he : x.wt = x.array.wt := rfl
  have hc : x.cnE = 1 + 1 + (cnL DDrive.cnE) x.array.drives + 1 + 1 := rfl
  have := cnDriveS_le x.array.drives
  have : x.array.wt = wL DDrive.wt x.array.drives := rfl
  omega
theorem DArrayOut.cnV_le (x : DArrayOut) : x.cnV ≤ 3 * x.wt := by
  have he : x.wt = x.array.wt := rfl
  have hc : x.cnV = (cnL DDrive.cnE) x.array.drives := rfl
  have := cnDriveS_le x.array.drives
  have : x.array.wt = wL DDrive.wt x.array.drives := rfl
  omega
end Go.Proofs.YtdbnppipgblajaaGreatDoor
namespace Go.Proofs.YtdbnppipgblajaaGreatDoor
open Go.RowKit
def r0 : TyRow := ⟨some (1, false), [], none, none, .other⟩
theorem row0 : rowOf Tryz.prog 0 = some r0 := by kernel_rfl
def r1 : TyRow := ⟨some (1, false), [], none, some [.nilFunc], .other⟩
theorem row1 : rowOf Tryz.prog 1 = some r1 := by kernel_rfl
def r2 : TyRow := ⟨some (1, false), [], none, some [.int .i64 0], .int .i64⟩
theorem row2 : rowOf Tryz.prog 2 = some r2 := by kernel_rfl
def r3 : TyRow := ⟨some (1, false), [], none, some [.int .i64 0], .int .i64⟩
theorem row3 : rowOf Tryz.prog 3 = some r3 := by kernel_rfl
def r4 : TyRow := ⟨some (1, false), [], none, some [.bool false], .bool⟩
theorem row4 : rowOf Tryz.prog 4 = some r4 := by kernel_rfl
def r5 : TyRow := ⟨some (1, false), [], none, some [.int .u8 0], .int .u8⟩
theorem row5 : rowOf Tryz.prog 5 = some r5 := by kernel_rfl
def r6 : TyRow := ⟨some (1, false), [], none, some [.int .u8 0], .int .u8⟩
theorem row6 : rowOf Tryz.prog 6 = some r6 := by kernel_rfl
def r7 : TyRow := ⟨some (4, true), [some (0, 1, false), some (1, 1, false), some (2, 1, false), some (3, 1, false)], none, some [.int .i64 0, .int .i64 0, .bool false, .int .u8 0], .struct 4⟩
theorem row7 : rowOf Tryz.prog 7 = some r7 := by kernel_rfl
def r8 : TyRow := ⟨some (4, true), [some (0, 1, false), some (1, 1, false), some (2, 1, false), some (3, 1, false)], none, some [.int .i64 0, .int .i64 0, .bool false, .int .u8 0], .struct 4⟩
theorem row8 : rowOf Tryz.prog 8 = some r8 := by kernel_rfl
def r9 : TyRow := ⟨some (1, false), [], none, some [.string .empty], .str⟩
theorem row9 : rowOf Tryz.prog 9 = some r9 := by kernel_rfl
def r10 : TyRow := ⟨some (1, false), [], none, some [.string .empty], .str⟩
theorem row10 : rowOf Tryz.prog 10 = some r10 := by kernel_rfl
def r11 : TyRow := ⟨some (1, false), [], none, some [.string .empty], .str⟩
theorem row11 : rowOf Tryz.prog 11 = some r11 := by kernel_rfl
def r12 : TyRow := ⟨some (1, false), [], none, some [.int .u64 0], .int .u64⟩
theorem row12 : rowOf Tryz.prog 12 = some r12 := by kernel_rfl
def r13 : TyRow := ⟨some (2, true), [some (0, 1, false), some (1, 1, false)], none, some [.string .empty, .int .u64 0], .struct 2⟩
theorem row13 : rowOf Tryz.prog 13 = some r13 := by kernel_rfl
def r14 : TyRow := ⟨some (2, true), [some (0, 1, false), some (1, 1, false)], none, some [.string .empty, .int .u64 0], .struct 2⟩
theorem row14 : rowOf Tryz.prog 14 = some r14 := by kernel_rfl
def r15 : TyRow := ⟨some (1, false), [], none, some [.pointer none], .other⟩
theorem row15 : rowOf Tryz.prog 15 = some r15 := by kernel_rfl
def r16 : TyRow := ⟨some (1, false), [], none, some [.pointer none], .other⟩
theorem row16 : rowOf Tryz.prog 16 = some r16 := by kernel_rfl
def r17 : TyRow := ⟨some (1, false), [], none, some [.pointer none], .other⟩
theorem row17 : rowOf Tryz.prog 17 = some r17 := by kernel_rfl
def r18 : TyRow := ⟨some (1, true), [some (0, 1, false)], none, some [.pointer none], .struct 1⟩
theorem row18 : rowOf Tryz.prog 18 = some r18 := by kernel_rfl
def r19 : TyRow := ⟨some (1, true), [some (0, 1, false)], none, some [.pointer none], .struct 1⟩
theorem row19 : rowOf Tryz.prog 19 = some r19 := by kernel_rfl
def r20 : TyRow := ⟨some (1, false), [], none, some [.nilIface], .other⟩
theorem row20 : rowOf Tryz.prog 20 = some r20 := by kernel_rfl
def r21 : TyRow := ⟨some (1, false), [], none, some [.int .i32 0], .int .i32⟩
theorem row21 : rowOf Tryz.prog 21 = some r21 := by kernel_rfl
def r22 : TyRow := ⟨some (1, false), [], some (54, 2, 32), some [.slice none 0 0], .sl⟩
theorem row22 : rowOf Tryz.prog 22 = some r22 := by kernel_rfl
def r23 : TyRow := ⟨some (3, true), [some (0, 1, false), some (1, 1, false), some (2, 1, false)], none, some [.int .i64 0, .int .i64 0, .slice none 0 0], .struct 3⟩
theorem row23 : rowOf Tryz.prog 23 = some r23 := by kernel_rfl
def r24 : TyRow := ⟨some (3, true), [some (0, 1, false), some (1, 1, false), some (2, 1, false)], none, some [.int .i64 0, .int .i64 0, .slice none 0 0], .struct 3⟩
theorem row24 : rowOf Tryz.prog 24 = some r24 := by kernel_rfl
def r25 : TyRow := ⟨some (1, false), [], none, some [.nilFunc], .other⟩
theorem row25 : rowOf Tryz.prog 25 = some r25 := by kernel_rfl
def r26 : TyRow := ⟨some (1, false), [], some (47, 5, 64), some [.slice none 0 0], .sl⟩
theorem row26 : rowOf Tryz.prog 26 = some r26 := by kernel_rfl
def r27 : TyRow := ⟨some (1, false), [], none, some [.nilFunc], .other⟩
theorem row27 : rowOf Tryz.prog 27 = some r27 := by kernel_rfl
def r28 : TyRow := ⟨some (1, false), [], some (59, 2, 32), some [.slice none 0 0], .sl⟩
theorem row28 : rowOf Tryz.prog 28 = some r28 := by kernel_rfl
def r29 : TyRow := ⟨some (3, true), [some (0, 1, false), some (1, 1, false), some (2, 1, false)], none, some [.int .i64 0, .int .i64 0, .slice none 0 0], .struct 3⟩
theorem row29 : rowOf Tryz.prog 29 = some r29 := by kernel_rfl
def r30 : TyRow := ⟨some (3, true), [some (0, 1, false), some (1, 1, false), some (2, 1, false)], none, some [.int .i64 0, .int .i64 0, .slice none 0 0], .struct 3⟩
theorem row30 : rowOf Tryz.prog 30 = some r30 := by kernel_rfl
def r31 : TyRow := ⟨some (1, false), [], none, some [.nilFunc], .other⟩
theorem row31 : rowOf Tryz.prog 31 = some r31 := by kernel_rfl
def r32 : TyRow := ⟨some (1, false), [], none, some [.nilFunc], .other⟩
theorem row32 : rowOf Tryz.prog 32 = some r32 := by kernel_rfl
def r33 : TyRow := ⟨some (1, false), [], none, some [.nilFunc], .other⟩
theorem row33 : rowOf Tryz.prog 33 = some r33 := by kernel_rfl
def r34 : TyRow := ⟨some (1, false), [], none, some [.nilFunc], .other⟩
theorem row34 : rowOf Tryz.prog 34 = some r34 := by kernel_rfl
def r35 : TyRow := ⟨some (1, false), [], none, some [.nilFunc], .other⟩
theorem row35 : rowOf Tryz.prog 35 = some r35 := by kernel_rfl
def r36 : TyRow := ⟨some (1, false), [], none, some [.nilFunc], .other⟩
theorem row36 : rowOf Tryz.prog 36 = some r36 := by kernel_rfl
def r37 : TyRow := ⟨some (1, false), [], none, some [.nilFunc], .other⟩
theorem row37 : rowOf Tryz.prog 37 = some r37 := by kernel_rfl
def r38 : TyRow := ⟨some (1, false), [], none, some [.nilFunc], .other⟩
theorem row38 : rowOf Tryz.prog 38 = some r38 := by kernel_rfl
def r39 : TyRow := ⟨some (1, false), [], none, some [.nilFunc], .other⟩
theorem row39 : rowOf Tryz.prog 39 = some r39 := by kernel_rfl
def r40 : TyRow := ⟨some (1, false), [], none, some [.nilFunc], .other⟩
theorem row40 : rowOf Tryz.prog 40 = some r40 := by kernel_rfl
def r41 : TyRow := ⟨some (1, false), [], none, some [.nilFunc], .other⟩
theorem row41 : rowOf Tryz.prog 41 = some r41 := by kernel_rfl
def r42 : TyRow := ⟨some (1, false), [], none, some [.nilFunc], .other⟩
theorem row42 : rowOf Tryz.prog 42 = some r42 := by kernel_rfl
def r43 : TyRow := ⟨some (1, false), [], none, some [.nilFunc], .other⟩
theorem row43 : rowOf Tryz.prog 43 = some r43 := by kernel_rfl
def r44 : TyRow := ⟨some (4, true), [some (0, 1, false), some (1, 1, false), some (2, 1, false), some (3, 1, false)], none, some [.int .i64 0, .string .empty, .string .empty, .string .empty], .struct 4⟩
theorem row44 : rowOf Tryz.prog 44 = some r44 := by kernel_rfl
def r45 : TyRow := ⟨some (4, true), [some (0, 1, false), some (1, 1, false), some (2, 1, false), some (3, 1, false)], none, some [.int .i64 0, .string .empty, .string .empty, .string .empty], .struct 4⟩
theorem row45 : rowOf Tryz.prog 45 = some r45 := by kernel_rfl
def r46 : TyRow := ⟨some (5, true), [some (0, 1, false), some (1, 4, true)], none, some [.int .i64 0, .int .i64 0, .string .empty, .string .empty, .string .empty], .struct 2⟩
theorem row46 : rowOf Tryz.prog 46 = some r46 := by kernel_rfl
def r47 : TyRow := ⟨some (5, true), [some (0, 1, false), some (1, 4, true)], none, some [.int .i64 0, .int .i64 0, .string .empty, .string .empty, .string .empty], .struct 2⟩
theorem row47 : rowOf Tryz.prog 47 = some r47 := by kernel_rfl
def r48 : TyRow := ⟨some (1, false), [], none, some [.nilFunc], .other⟩
theorem row48 : rowOf Tryz.prog 48 = some r48 := by kernel_rfl
def r49 : TyRow := ⟨some (1, false), [], none, some [.nilFunc], .other⟩
theorem row49 : rowOf Tryz.prog 49 = some r49 := by kernel_rfl
def r50 : TyRow := ⟨some (1, false), [], none, some [.nilFunc], .other⟩
theorem row50 : rowOf Tryz.prog 50 = some r50 := by kernel_rfl
def r51 : TyRow := ⟨some (1, false), [], none, some [.nilFunc], .other⟩
theorem row51 : rowOf Tryz.prog 51 = some r51 := by kernel_rfl
def r52 : TyRow := ⟨some (1, false), [], some (109, 3, 40), some [.slice none 0 0], .sl⟩
theorem row52 : rowOf Tryz.prog 52 = some r52 := by kernel_rfl
def r53 : TyRow := ⟨some (2, true), [some (0, 1, false), some (1, 1, false)], none, some [.slice none 0 0, .int .i64 0], .struct 2⟩
theorem row53 : rowOf Tryz.prog 53 = some r53 := by kernel_rfl
def r54 : TyRow := ⟨some (2, true), [some (0, 1, false), some (1, 1, false)], none, some [.slice none 0 0, .int .i64 0], .struct 2⟩
theorem row54 : rowOf Tryz.prog 54 = some r54 := by kernel_rfl
def r55 : TyRow := ⟨some (1, false), [], none, some [.nilFunc], .other⟩
theorem row55 : rowOf Tryz.prog 55 = some r55 := by kernel_rfl
def r56 : TyRow := ⟨some (1, false), [], none, some [.nilFunc], .other⟩
theorem row56 : rowOf Tryz.prog 56 = some r56 := by kernel_rfl
def r57 : TyRow := ⟨some (1, false), [], some (82, 3, 40), some [.slice none 0 0], .sl⟩
theorem row57 : rowOf Tryz.prog 57 = some r57 := by kernel_rfl
def r58 : TyRow := ⟨some (2, true), [some (0, 1, false), some (1, 1, false)], none, some [.slice none 0 0, .int .i64 0], .struct 2⟩
theorem row58 : rowOf Tryz.prog 58 = some r58 := by kernel_rfl
def r59 : TyRow := ⟨some (2, true), [some (0, 1, false), some (1, 1, false)], none, some [.slice none 0 0, .int .i64 0], .struct 2⟩
theorem row59 : rowOf Tryz.prog 59 = some r59 := by kernel_rfl
def r60 : TyRow := ⟨some (1, false), [], some (9, 1, 16), some [.slice none 0 0], .sl⟩
theorem row60 : rowOf Tryz.prog 60 = some r60 := by kernel_rfl
def r61 : TyRow := ⟨some (2, true), [some (0, 1, false), some (1, 1, false)], none, some [.slice none 0 0, .int .i64 0], .struct 2⟩
theorem row61 : rowOf Tryz.prog 61 = some r61 := by kernel_rfl
def r62 : TyRow := ⟨some (2, true), [some (0, 1, false), some (1, 1, false)], none, some [.slice none 0 0, .int .i64 0], .struct 2⟩
theorem row62 : rowOf Tryz.prog 62 = some r62 := by kernel_rfl
def r63 : TyRow := ⟨some (1, false), [], none, some [.nilFunc], .other⟩
theorem row63 : rowOf Tryz.prog 63 = some r63 := by kernel_rfl
def r64 : TyRow := ⟨some (1, false), [], none, some [.nilFunc], .other⟩
theorem row64 : rowOf Tryz.prog 64 = some r64 := by kernel_rfl
def r65 : TyRow := ⟨some (1, false), [], none, some [.nilFunc], .other⟩
theorem row65 : rowOf Tryz.prog 65 = some r65 := by kernel_rfl
def r66 : TyRow := ⟨some (1, false), [], none, some [.nilFunc], .other⟩
theorem row66 : rowOf Tryz.prog 66 = some r66 := by kernel_rfl
def r67 : TyRow := ⟨some (1, false), [], none, some [.nilFunc], .other⟩
theorem row67 : rowOf Tryz.prog 67 = some r67 := by kernel_rfl
def r68 : TyRow := ⟨some (1, false), [], none, some [.nilFunc], .other⟩
theorem row68 : rowOf Tryz.prog 68 = some r68 := by kernel_rfl
def r69 : TyRow := ⟨some (1, false), [], none, some [.nilFunc], .other⟩
theorem row69 : rowOf Tryz.prog 69 = some r69 := by kernel_rfl
def r70 : TyRow := ⟨some (1, false), [], none, some [.nilFunc], .other⟩
theorem row70 : rowOf Tryz.prog 70 = some r70 := by kernel_rfl
def r71 : TyRow := ⟨some (1, false), [], none, some [.nilFunc], .other⟩
theorem row71 : rowOf Tryz.prog 71 = some r71 := by kernel_rfl
def r72 : TyRow := ⟨some (1, false), [], none, some [.nilFunc], .other⟩
theorem row72 : rowOf Tryz.prog 72 = some r72 := by kernel_rfl
def r73 : TyRow := ⟨some (1, false), [], none, some [.nilFunc], .other⟩
theorem row73 : rowOf Tryz.prog 73 = some r73 := by kernel_rfl
def r74 : TyRow := ⟨some (1, false), [], none, some [.nilFunc], .other⟩
theorem row74 : rowOf Tryz.prog 74 = some r74 := by kernel_rfl
def r75 : TyRow := ⟨some (1, false), [], none, some [.nilFunc], .other⟩
theorem row75 : rowOf Tryz.prog 75 = some r75 := by kernel_rfl
def r76 : TyRow := ⟨some (1, false), [], none, some [.nilFunc], .other⟩
theorem row76 : rowOf Tryz.prog 76 = some r76 := by kernel_rfl
def r77 : TyRow := ⟨some (1, false), [], none, some [.nilFunc], .other⟩
theorem row77 : rowOf Tryz.prog 77 = some r77 := by kernel_rfl
def r78 : TyRow := ⟨some (1, false), [], none, some [.nilFunc], .other⟩
theorem row78 : rowOf Tryz.prog 78 = some r78 := by kernel_rfl
def r79 : TyRow := ⟨some (1, false), [], some (5, 1, 1), some [.slice none 0 0], .sl⟩
theorem row79 : rowOf Tryz.prog 79 = some r79 := by kernel_rfl
def r80 : TyRow := ⟨some (1, false), [], none, some [.nilFunc], .other⟩
theorem row80 : rowOf Tryz.prog 80 = some r80 := by kernel_rfl
def r81 : TyRow := ⟨some (3, true), [some (0, 1, false), some (1, 1, false), some (2, 1, false)], none, some [.string .empty, .string .empty, .int .i64 0], .struct 3⟩
theorem row81 : rowOf Tryz.prog 81 = some r81 := by kernel_rfl
def r82 : TyRow := ⟨some (3, true), [some (0, 1, false), some (1, 1, false), some (2, 1, false)], none, some [.string .empty, .string .empty, .int .i64 0], .struct 3⟩
theorem row82 : rowOf Tryz.prog 82 = some r82 := by kernel_rfl
def r83 : TyRow := ⟨some (1, false), [], none, some [.nilFunc], .other⟩
theorem row83 : rowOf Tryz.prog 83 = some r83 := by kernel_rfl
def r84 : TyRow := ⟨some (1, false), [], none, some [.nilFunc], .other⟩
theorem row84 : rowOf Tryz.prog 84 = some r84 := by kernel_rfl
def r85 : TyRow := ⟨some (1, false), [], none, some [.nilFunc], .other⟩
theorem row85 : rowOf Tryz.prog 85 = some r85 := by kernel_rfl
def r86 : TyRow := ⟨some (1, false), [], some (2, 1, 8), some [.slice none 0 0], .sl⟩
theorem row86 : rowOf Tryz.prog 86 = some r86 := by kernel_rfl
def r87 : TyRow := ⟨some (3, true), [some (0, 1, false), some (1, 1, false), some (2, 1, false)], none, some [.int .i64 0, .int .i64 0, .slice none 0 0], .struct 3⟩
theorem row87 : rowOf Tryz.prog 87 = some r87 := by kernel_rfl
def r88 : TyRow := ⟨some (3, true), [some (0, 1, false), some (1, 1, false), some (2, 1, false)], none, some [.int .i64 0, .int .i64 0, .slice none 0 0], .struct 3⟩
theorem row88 : rowOf Tryz.prog 88 = some r88 := by kernel_rfl
def r89 : TyRow := ⟨some (4, true), [some (0, 3, true), some (3, 1, false)], none, some [.int .i64 0, .int .i64 0, .slice none 0 0, .int .i64 0], .struct 2⟩
theorem row89 : rowOf Tryz.prog 89 = some r89 := by kernel_rfl
def r90 : TyRow := ⟨some (4, true), [some (0, 3, true), some (3, 1, false)], none, some [.int .i64 0, .int .i64 0, .slice none 0 0, .int .i64 0], .struct 2⟩
theorem row90 : rowOf Tryz.prog 90 = some r90 := by kernel_rfl
def r91 : TyRow := ⟨some (1, false), [], none, some [.nilFunc], .other⟩
theorem row91 : rowOf Tryz.prog 91 = some r91 := by kernel_rfl
def r92 : TyRow := ⟨some (1, false), [], none, some [.nilFunc], .other⟩
theorem row92 : rowOf Tryz.prog 92 = some r92 := by kernel_rfl
def r93 : TyRow := ⟨some (6, true), [some (0, 1, false), some (1, 1, false), some (2, 1, false), some (3, 1, false), some (4, 1, false), some (5, 1, false)], none, some [.int .i64 0, .int .i64 0, .int .i64 0, .int .i64 0, .string .empty, .string .empty], .struct 6⟩
theorem row93 : rowOf Tryz.prog 93 = some r93 := by kernel_rfl
def r94 : TyRow := ⟨some (6, true), [some (0, 1, false), some (1, 1, false), some (2, 1, false), some (3, 1, false), some (4, 1, false), some (5, 1, false)], none, some [.int .i64 0, .int .i64 0, .int .i64 0, .int .i64 0, .string .empty, .string .empty], .struct 6⟩
theorem row94 : rowOf Tryz.prog 94 = some r94 := by kernel_rfl
def r95 : TyRow := ⟨some (1, false), [], none, some [.nilFunc], .other⟩
theorem row95 : rowOf Tryz.prog 95 = some r95 := by kernel_rfl
def r96 : TyRow := ⟨some (1, false), [], none, some [.nilFunc], .other⟩
theorem row96 : rowOf Tryz.prog 96 = some r96 := by kernel_rfl
def r97 : TyRow := ⟨some (1, false), [], none, some [.nilFunc], .other⟩
theorem row97 : rowOf Tryz.prog 97 = some r97 := by kernel_rfl
def r98 : TyRow := ⟨some (1, false), [], none, some [.nilFunc], .other⟩
theorem row98 : rowOf Tryz.prog 98 = some r98 := by kernel_rfl
def r99 : TyRow := ⟨some (1, false), [], none, some [.nilFunc], .other⟩
theorem row99 : rowOf Tryz.prog 99 = some r99 := by kernel_rfl
def r100 : TyRow := ⟨some (1, false), [], none, some [.int .u32 0], .int .u32⟩
theorem row100 : rowOf Tryz.prog 100 = some r100 := by kernel_rfl
def r101 : TyRow := ⟨some (8, true), [], none, some [.int .u32 0, .int .u32 0, .int .u32 0, .int .u32 0, .int .u32 0, .int .u32 0, .int .u32 0, .int .u32 0], .arr 8 100⟩
theorem row101 : rowOf Tryz.prog 101 = some r101 := by kernel_rfl
def r102 : TyRow := ⟨some (1, false), [], none, some [.nilFunc], .other⟩
theorem row102 : rowOf Tryz.prog 102 = some r102 := by kernel_rfl
def r103 : TyRow := ⟨some (1, false), [], none, some [.nilFunc], .other⟩
theorem row103 : rowOf Tryz.prog 103 = some r103 := by kernel_rfl
def r104 : TyRow := ⟨some (1, false), [], none, some [.nilFunc], .other⟩
theorem row104 : rowOf Tryz.prog 104 = some r104 := by kernel_rfl
def r105 : TyRow := ⟨some (1, false), [], none, some [.nilFunc], .other⟩
theorem row105 : rowOf Tryz.prog 105 = some r105 := by kernel_rfl
def r106 : TyRow := ⟨some (1, false), [], none, some [.nilFunc], .other⟩
theorem row106 : rowOf Tryz.prog 106 = some r106 := by kernel_rfl
def r107 : TyRow := ⟨some (1, false), [], none, some [.nilFunc], .other⟩
theorem row107 : rowOf Tryz.prog 107 = some r107 := by kernel_rfl
def r108 : TyRow := ⟨some (1, false), [], none, some [.nilFunc], .other⟩
theorem row108 : rowOf Tryz.prog 108 = some r108 := by kernel_rfl
def r109 : TyRow := ⟨some (3, true), [some (0, 1, false), some (1, 1, false), some (2, 1, false)], none, some [.string .empty, .string .empty, .int .i64 0], .struct 3⟩
theorem row109 : rowOf Tryz.prog 109 = some r109 := by kernel_rfl
def r110 : TyRow := ⟨some (1, false), [], none, some [.nilFunc], .other⟩
theorem row110 : rowOf Tryz.prog 110 = some r110 := by kernel_rfl
def r111 : TyRow := ⟨some (1, false), [], none, some [.nilFunc], .other⟩
theorem row111 : rowOf Tryz.prog 111 = some r111 := by kernel_rfl
def r112 : TyRow := ⟨some (1, false), [], none, some [.nilFunc], .other⟩
theorem row112 : rowOf Tryz.prog 112 = some r112 := by kernel_rfl
def r113 : TyRow := ⟨some (1, false), [], none, some [.nilFunc], .other⟩
theorem row113 : rowOf Tryz.prog 113 = some r113 := by kernel_rfl
def r114 : TyRow := ⟨some (1, false), [], none, some [.nilFunc], .other⟩
theorem row114 : rowOf Tryz.prog 114 = some r114 := by kernel_rfl
def r115 : TyRow := ⟨some (3, true), [some (0, 1, false), some (1, 1, false), some (2, 1, false)], none, some [.slice none 0 0, .string .empty, .int .i64 0], .struct 3⟩
theorem row115 : rowOf Tryz.prog 115 = some r115 := by kernel_rfl
def r116 : TyRow := ⟨some (3, true), [some (0, 1, false), some (1, 1, false), some (2, 1, false)], none, some [.slice none 0 0, .string .empty, .int .i64 0], .struct 3⟩
theorem row116 : rowOf Tryz.prog 116 = some r116 := by kernel_rfl
def r117 : TyRow := ⟨some (1, false), [], none, some [.nilFunc], .other⟩
theorem row117 : rowOf Tryz.prog 117 = some r117 := by kernel_rfl
def r118 : TyRow := ⟨some (1, false), [], none, some [.nilFunc], .other⟩
theorem row118 : rowOf Tryz.prog 118 = some r118 := by kernel_rfl
def r119 : TyRow := ⟨some (1, false), [], none, some [.nilFunc], .other⟩
theorem row119 : rowOf Tryz.prog 119 = some r119 := by kernel_rfl
def r120 : TyRow := ⟨some (1, false), [], none, some [.nilFunc], .other⟩
theorem row120 : rowOf Tryz.prog 120 = some r120 := by kernel_rfl
def r121 : TyRow := ⟨some (1, false), [], none, some [.nilFunc], .other⟩
theorem row121 : rowOf Tryz.prog 121 = some r121 := by kernel_rfl
def r122 : TyRow := ⟨some (64, true), [], none, some [.int .u32 0, .int .u32 0, .int .u32 0, .int .u32 0, .int .u32 0, .int .u32 0, .int .u32 0, .int .u32 0, .int .u32 0, .int .u32 0, .int .u32 0, .int .u32 0, .int .u32 0, .int .u32 0, .int .u32 0, .int .u32 0, .int .u32 0, .int .u32 0, .int .u32 0, .int .u32 0, .int .u32 0, .int .u32 0, .int .u32 0, .int .u32 0, .int .u32 0, .int .u32 0, .int .u32 0, .int .u32 0, .int .u32 0, .int .u32 0, .int .u32 0, .int .u32 0, .int .u32 0, .int .u32 0, .int .u32 0, .int .u32 0, .int .u32 0, .int .u32 0, .int .u32 0, .int .u32 0, .int .u32 0, .int .u32 0, .int .u32 0, .int .u32 0, .int .u32 0, .int .u32 0, .int .u32 0, .int .u32 0, .int .u32 0, .int .u32 0, .int .u32 0, .int .u32 0, .int .u32 0, .int .u32 0, .int .u32 0, .int .u32 0, .int .u32 0, .int .u32 0, .int .u32 0, .int .u32 0, .int .u32 0, .int .u32 0, .int .u32 0, .int .u32 0], .arr 64 100⟩
theorem row122 : rowOf Tryz.prog 122 = some r122 := by kernel_rfl
def r123 : TyRow := ⟨some (1, false), [], none, some [.int .u64 0], .int .u64⟩
theorem row123 : rowOf Tryz.prog 123 = some r123 := by kernel_rfl
def r124 : TyRow := ⟨some (1, false), [], none, some [.nilFunc], .other⟩
theorem row124 : rowOf Tryz.prog 124 = some r124 := by kernel_rfl
def r125 : TyRow := ⟨some (1, false), [], none, some [.nilFunc], .other⟩
theorem row125 : rowOf Tryz.prog 125 = some r125 := by kernel_rfl
def r126 : TyRow := ⟨some (1, false), [], none, some [.nilFunc], .other⟩
theorem row126 : rowOf Tryz.prog 126 = some r126 := by kernel_rfl
def r127 : TyRow := ⟨some (1, false), [], none, some [.nilFunc], .other⟩
theorem row127 : rowOf Tryz.prog 127 = some r127 := by kernel_rfl
def r128 : TyRow := ⟨some (1, false), [], some (86, 1, 24), some [.slice none 0 0], .sl⟩
theorem row128 : rowOf Tryz.prog 128 = some r128 := by kernel_rfl
def r129 : TyRow := ⟨some (1, false), [], none, some [.nilFunc], .other⟩
theorem row129 : rowOf Tryz.prog 129 = some r129 := by kernel_rfl
def r130 : TyRow := ⟨some (1, false), [], none, some [.nilFunc], .other⟩
theorem row130 : rowOf Tryz.prog 130 = some r130 := by kernel_rfl
def r131 : TyRow := ⟨some (1, false), [], none, none, .other⟩
theorem row131 : rowOf Tryz.prog 131 = some r131 := by kernel_rfl
def r132 : TyRow := ⟨some (1, false), [], none, some [.nilFunc], .other⟩
theorem row132 : rowOf Tryz.prog 132 = some r132 := by kernel_rfl
def r133 : TyRow := ⟨some (1, false), [], none, some [.nilFunc], .other⟩
theorem row133 : rowOf Tryz.prog 133 = some r133 := by kernel_rfl
def r134 : TyRow := ⟨some (1, false), [], none, some [.int .u64 0], .int .u64⟩
theorem row134 : rowOf Tryz.prog 134 = some r134 := by kernel_rfl
def r135 : TyRow := ⟨some (1, false), [], none, some [.nilFunc], .other⟩
theorem row135 : rowOf Tryz.prog 135 = some r135 := by kernel_rfl
def r136 : TyRow := ⟨some (1, false), [], none, some [.nilFunc], .other⟩
theorem row136 : rowOf Tryz.prog 136 = some r136 := by kernel_rfl
def r137 : TyRow := ⟨some (1, false), [], none, none, .other⟩
theorem row137 : rowOf Tryz.prog 137 = some r137 := by kernel_rfl
def r138 : TyRow := ⟨some (1, false), [], none, some [.nilFunc], .other⟩
theorem row138 : rowOf Tryz.prog 138 = some r138 := by kernel_rfl
def r139 : TyRow := ⟨some (1, false), [], none, some [.pointer none], .other⟩
theorem row139 : rowOf Tryz.prog 139 = some r139 := by kernel_rfl
def r140 : TyRow := ⟨some (2, true), [some (0, 1, false), some (1, 1, false)], none, some [.pointer none, .slice none 0 0], .struct 2⟩
theorem row140 : rowOf Tryz.prog 140 = some r140 := by kernel_rfl
def r141 : TyRow := ⟨some (2, true), [some (0, 1, false), some (1, 1, false)], none, some [.pointer none, .slice none 0 0], .struct 2⟩
theorem row141 : rowOf Tryz.prog 141 = some r141 := by kernel_rfl
def r142 : TyRow := ⟨some (1, false), [], none, some [.nilFunc], .other⟩
theorem row142 : rowOf Tryz.prog 142 = some r142 := by kernel_rfl
def r143 : TyRow := ⟨some (1, false), [], none, some [.nilIface], .other⟩
theorem row143 : rowOf Tryz.prog 143 = some r143 := by kernel_rfl
def r144 : TyRow := ⟨some (1, false), [], none, some [.nilIface], .other⟩
theorem row144 : rowOf Tryz.prog 144 = some r144 := by kernel_rfl
def r145 : TyRow := ⟨some (1, false), [], none, none, .other⟩
theorem row145 : rowOf Tryz.prog 145 = some r145 := by kernel_rfl
def r146 : TyRow := ⟨some (1, false), [], none, some [.nilFunc], .other⟩
theorem row146 : rowOf Tryz.prog 146 = some r146 := by kernel_rfl
def r147 : TyRow := ⟨some (1, false), [], none, some [.nilFunc], .other⟩
theorem row147 : rowOf Tryz.prog 147 = some r147 := by kernel_rfl
def r148 : TyRow := ⟨some (1, false), [], none, some [.nilFunc], .other⟩
theorem row148 : rowOf Tryz.prog 148 = some r148 := by kernel_rfl
def r149 : TyRow := ⟨some (1, false), [], none, some [.nilFunc], .other⟩
theorem row149 : rowOf Tryz.prog 149 = some r149 := by kernel_rfl
def r150 : TyRow := ⟨some (1, false), [], none, some [.nilFunc], .other⟩
theorem row150 : rowOf Tryz.prog 150 = some r150 := by kernel_rfl
def r151 : TyRow := ⟨some (1, false), [], none, some [.nilFunc], .other⟩
theorem row151 : rowOf Tryz.prog 151 = some r151 := by kernel_rfl
def r152 : TyRow := ⟨some (1, false), [], none, some [.nilFunc], .other⟩
theorem row152 : rowOf Tryz.prog 152 = some r152 := by kernel_rfl
def r153 : TyRow := ⟨some (1, false), [], none, some [.nilFunc], .other⟩
theorem row153 : rowOf Tryz.prog 153 = some r153 := by kernel_rfl
def r154 : TyRow := ⟨some (1, false), [], some (100, 1, 4), some [.slice none 0 0], .sl⟩
theorem row154 : rowOf Tryz.prog 154 = some r154 := by kernel_rfl
def r155 : TyRow := ⟨some (1, false), [], none, some [.nilFunc], .other⟩
theorem row155 : rowOf Tryz.prog 155 = some r155 := by kernel_rfl
def r156 : TyRow := ⟨some (1, false), [], none, some [.nilFunc], .other⟩
theorem row156 : rowOf Tryz.prog 156 = some r156 := by kernel_rfl
def r157 : TyRow := ⟨some (1, false), [], none, some [.nilFunc], .other⟩
theorem row157 : rowOf Tryz.prog 157 = some r157 := by kernel_rfl
def r158 : TyRow := ⟨some (1, false), [], none, none, .other⟩
theorem row158 : rowOf Tryz.prog 158 = some r158 := by kernel_rfl
def r159 : TyRow := ⟨some (1, false), [], none, some [.nilFunc], .other⟩
theorem row159 : rowOf Tryz.prog 159 = some r159 := by kernel_rfl
def r160 : TyRow := ⟨some (1, false), [], none, none, .other⟩
theorem row160 : rowOf Tryz.prog 160 = some r160 := by kernel_rfl
def r161 : TyRow := ⟨some (1, false), [], none, some [.nilFunc], .other⟩
theorem row161 : rowOf Tryz.prog 161 = some r161 := by kernel_rfl
def r162 : TyRow := ⟨some (1, false), [], none, some [.pointer none], .other⟩
theorem row162 : rowOf Tryz.prog 162 = some r162 := by kernel_rfl
def r163 : TyRow := ⟨some (1, false), [], none, some [.nilFunc], .other⟩
theorem row163 : rowOf Tryz.prog 163 = some r163 := by kernel_rfl
def r164 : TyRow := ⟨some (1, false), [], none, some [.pointer none], .other⟩
theorem row164 : rowOf Tryz.prog 164 = some r164 := by kernel_rfl
def r165 : TyRow := ⟨some (1, false), [], none, some [.nilFunc], .other⟩
theorem row165 : rowOf Tryz.prog 165 = some r165 := by kernel_rfl
def r166 : TyRow := ⟨some (1, false), [], none, some [.nilFunc], .other⟩
theorem row166 : rowOf Tryz.prog 166 = some r166 := by kernel_rfl
def r167 : TyRow := ⟨some (4, true), [some (0, 1, false), some (1, 1, false), some (2, 1, false), some (3, 1, false)], none, some [.pointer none, .pointer none, .pointer none, .string .empty], .struct 4⟩
theorem row167 : rowOf Tryz.prog 167 = some r167 := by kernel_rfl
def r168 : TyRow := ⟨some (4, true), [some (0, 1, false), some (1, 1, false), some (2, 1, false), some (3, 1, false)], none, some [.pointer none, .pointer none, .pointer none, .string .empty], .struct 4⟩
theorem row168 : rowOf Tryz.prog 168 = some r168 := by kernel_rfl
def r169 : TyRow := ⟨some (0, true), [], none, some [], .arr 0 16⟩
theorem row169 : rowOf Tryz.prog 169 = some r169 := by kernel_rfl
def r170 : TyRow := ⟨some (0, true), [none], none, some [], .struct 1⟩
theorem row170 : rowOf Tryz.prog 170 = some r170 := by kernel_rfl
def r171 : TyRow := ⟨some (0, true), [none], none, some [], .struct 1⟩
theorem row171 : rowOf Tryz.prog 171 = some r171 := by kernel_rfl
def r172 : TyRow := ⟨some (1, false), [], none, some [.int .u8 0], .int .u8⟩
theorem row172 : rowOf Tryz.prog 172 = some r172 := by kernel_rfl
def r173 : TyRow := ⟨some (1, false), [], none, some [.int .u8 0], .int .u8⟩
theorem row173 : rowOf Tryz.prog 173 = some r173 := by kernel_rfl
def r174 : TyRow := ⟨some (1, false), [], none, some [.nilFunc], .other⟩
theorem row174 : rowOf Tryz.prog 174 = some r174 := by kernel_rfl
def r175 : TyRow := ⟨some (1, false), [], none, some [.int .i32 0], .int .i32⟩
theorem row175 : rowOf Tryz.prog 175 = some r175 := by kernel_rfl
def r176 : TyRow := ⟨some (1, false), [], none, some [.int .i32 0], .int .i32⟩
theorem row176 : rowOf Tryz.prog 176 = some r176 := by kernel_rfl
def r177 : TyRow := ⟨some (11, true), [some (0, 1, false), some (1, 1, false), some (2, 1, false), some (3, 1, false), some (4, 1, false), some (5, 1, false), some (6, 1, false), some (7, 1, false), some (8, 1, false), some (9, 1, false), some (10, 1, false)], none, some [.int .u64 0, .int .u64 0, .int .u32 0, .int .u8 0, .int .u8 0, .int .u8 0, .int .u8 0, .nilFunc, .pointer none, .int .i32 0, .int .i32 0], .struct 11⟩
theorem row177 : rowOf Tryz.prog 177 = some r177 := by kernel_rfl
def r178 : TyRow := ⟨some (11, true), [some (0, 1, false), some (1, 1, false), some (2, 1, false), some (3, 1, false), some (4, 1, false), some (5, 1, false), some (6, 1, false), some (7, 1, false), some (8, 1, false), some (9, 1, false), some (10, 1, false)], none, some [.int .u64 0, .int .u64 0, .int .u32 0, .int .u8 0, .int .u8 0, .int .u8 0, .int .u8 0, .nilFunc, .pointer none, .int .i32 0, .int .i32 0], .struct 11⟩
theorem row178 : rowOf Tryz.prog 178 = some r178 := by kernel_rfl
def r179 : TyRow := ⟨some (1, false), [], none, some [.nilFunc], .other⟩
theorem row179 : rowOf Tryz.prog 179 = some r179 := by kernel_rfl
def r180 : TyRow := ⟨some (1, false), [], none, some [.nilFunc], .other⟩
theorem row180 : rowOf Tryz.prog 180 = some r180 := by kernel_rfl
def r181 : TyRow := ⟨some (1, false), [], none, some [.nilFunc], .other⟩
theorem row181 : rowOf Tryz.prog 181 = some r181 := by kernel_rfl
def tab : Tab := (.node 91 r91 (.node 45 r45 (.node 22 r22 (.node 11 r11 (.node 5 r5 (.node 2 r2 (.node 1 r1 (.node 0 r0 .nil .nil) .nil) (.node 4 r4 (.node 3 r3 .nil .nil) .nil)) (.node 8 r8 (.node 7 r7 (.node 6 r6 .nil .nil) .nil) (.node 10 r10 (.node 9 r9 .nil .nil) .nil))) (.node 17 r17 (.node 14 r14 (.node 13 r13 (.node 12 r12 .nil .nil) .nil) (.node 16 r16 (.node 15 r15 .nil .nil) .nil)) (.node 20 r20 (.node 19 r19 (.node 18 r18 .nil .nil) .nil) (.node 21 r21 .nil .nil)))) (.node 34 r34 (.node 28 r28 (.node 25 r25 (.node 24 r24 (.node 23 r23 .nil .nil) .nil) (.node 27 r27 (.node 26 r26 .nil .nil) .nil)) (.node 31 r31 (.node 30 r30 (.node 29 r29 .nil .nil) .nil) (.node 33 r33 (.node 32 r32 .nil .nil) .nil))) (.node 40 r40 (.node 37 r37 (.node 36 r36 (.node 35 r35 .nil .nil) .nil) (.node 39 r39 (.node 38 r38 .nil .nil) .nil)) (.node 43 r43 (.node 42 r42 (.node 41 r41 .nil .nil) .nil) (.node 44 r44 .nil .nil))))) (.node 68 r68 (.node 57 r57 (.node 51 r51 (.node 48 r48 (.node 47 r47 (.node 46 r46 .nil .nil) .nil) (.node 50 r50 (.node 49 r49 .nil .nil) .nil)) (.node 54 r54 (.node 53 r53 (.node 52 r52 .nil .nil) .nil) (.node 56 r56 (.node 55 r55 .nil .nil) .nil))) (.node 63 r63 (.node 60 r60 (.node 59 r59 (.node 58 r58 .nil .nil) .nil) (.node 62 r62 (.node 61 r61 .nil .nil) .nil)) (.node 66 r66 (.node 65 r65 (.node 64 r64 .nil .nil) .nil) (.node 67 r67 .nil .nil)))) (.node 80 r80 (.node 74 r74 (.node 71 r71 (.node 70 r70 (.node 69 r69 .nil .nil) .nil) (.node 73 r73 (.node 72 r72 .nil .nil) .nil)) (.node 77 r77 (.node 76 r76 (.node 75 r75 .nil .nil) .nil) (.node 79 r79 (.node 78 r78 .nil .nil) .nil))) (.node 86 r86 (.node 83 r83 (.node 82 r82 (.node 81 r81 .nil .nil) .nil) (.node 85 r85 (.node 84 r84 .nil .nil) .nil)) (.node 89 r89 (.node 88 r88 (.node 87 r87 .nil .nil) .nil) (.node 90 r90 .nil .nil)))))) (.node 137 r137 (.node 114 r114 (.node 103 r103 (.node 97 r97 (.node 94 r94 (.node 93 r93 (.node 92 r92 .nil .nil) .nil) (.node 96 r96 (.node 95 r95 .nil .nil) .nil)) (.node 100 r100 (.node 99 r99 (.node 98 r98 .nil .nil) .nil) (.node 102 r102 (.node 101 r101 .nil .nil) .nil))) (.node 109 r109 (.node 106 r106 (.node 105 r105 (.node 104 r104 .nil .nil) .nil) (.node 108 r108 (.node 107 r107 .nil .nil) .nil)) (.node 112 r112 (.node 111 r111 (.node 110 r110 .nil .nil) .nil) (.node 113 r113 .nil .nil)))) (.node 126 r126 (.node 120 r120 (.node 117 r117 (.node 116 r116 (.node 115 r115 .nil .nil) .nil) (.node 119 r119 (.node 118 r118 .nil .nil) .nil)) (.node 123 r123 (.node 122 r122 (.node 121 r121 .nil .nil) .nil) (.node 125 r125 (.node 124 r124 .nil .nil) .nil))) (.node 132 r132 (.node 129 r129 (.node 128 r128 (.node 127 r127 .nil .nil) .nil) (.node 131 r131 (.node 130 r130 .nil .nil) .nil)) (.node 135 r135 (.node 134 r134 (.node 133 r133 .nil .nil) .nil) (.node 136 r136 .nil .nil))))) (.node 160 r160 (.node 149 r149 (.node 143 r143 (.node 140 r140 (.node 139 r139 (.node 138 r138 .nil .nil) .nil) (.node 142 r142 (.node 141 r141 .nil .nil) .nil)) (.node 146 r146 (.node 145 r145 (.node 144 r144 .nil .nil) .nil) (.node 148 r148 (.node 147 r147 .nil .nil) .nil))) (.node 155 r155 (.node 152 r152 (.node 151 r151 (.node 150 r150 .nil .nil) .nil) (.node 154 r154 (.node 153 r153 .nil .nil) .nil)) (.node 158 r158 (.node 157 r157 (.node 156 r156 .nil .nil) .nil) (.node 159 r159 .nil .nil)))) (.node 171 r171 (.node 166 r166 (.node 163 r163 (.node 162 r162 (.node 161 r161 .nil .nil) .nil) (.node 165 r165 (.node 164 r164 .nil .nil) .nil)) (.node 169 r169 (.node 168 r168 (.node 167 r167 .nil .nil) .nil) (.node 170 r170 .nil .nil))) (.node 177 r177 (.node 174 r174 (.node 173 r173 (.node 172 r172 .nil .nil) .nil) (.node 176 r176 (.node 175 r175 .nil .nil) .nil)) (.node 180 r180 (.node 179 r179 (.node 178 r178 .nil .nil) .nil) (.node 181 r181 .nil .nil)))))))
theorem tab_ok : tab.ok Tryz.prog := ⟨row91, ⟨row45, ⟨row22, ⟨row11, ⟨row5, ⟨row2, ⟨row1, ⟨row0, trivial, trivial⟩, trivial⟩, ⟨row4, ⟨row3, trivial, trivial⟩, trivial⟩⟩, ⟨row8, ⟨row7, ⟨row6, trivial, trivial⟩, trivial⟩, ⟨row10, ⟨row9, trivial, trivial⟩, trivial⟩⟩⟩, ⟨row17, ⟨row14, ⟨row13, ⟨row12, trivial, trivial⟩, trivial⟩, ⟨row16, ⟨row15, trivial, trivial⟩, trivial⟩⟩, ⟨row20, ⟨row19, ⟨row18, trivial, trivial⟩, trivial⟩, ⟨row21, trivial, trivial⟩⟩⟩⟩, ⟨row34, ⟨row28, ⟨row25, ⟨row24, ⟨row23, trivial, trivial⟩, trivial⟩, ⟨row27, ⟨row26, trivial, trivial⟩, trivial⟩⟩, ⟨row31, ⟨row30, ⟨row29, trivial, trivial⟩, trivial⟩, ⟨row33, ⟨row32, trivial, trivial⟩, trivial⟩⟩⟩, ⟨row40, ⟨row37, ⟨row36, ⟨row35, trivial, trivial⟩, trivial⟩, ⟨row39, ⟨row38, trivial, trivial⟩, trivial⟩⟩, ⟨row43, ⟨row42, ⟨row41, trivial, trivial⟩, trivial⟩, ⟨row44, trivial, trivial⟩⟩⟩⟩⟩, ⟨row68, ⟨row57, ⟨row51, ⟨row48, ⟨row47, ⟨row46, trivial, trivial⟩, trivial⟩, ⟨row50, ⟨row49, trivial, trivial⟩, trivial⟩⟩, ⟨row54, ⟨row53, ⟨row52, trivial, trivial⟩, trivial⟩, ⟨row56, ⟨row55, trivial, trivial⟩, trivial⟩⟩⟩, ⟨row63, ⟨row60, ⟨row59, ⟨row58, trivial, trivial⟩, trivial⟩, ⟨row62, ⟨row61, trivial, trivial⟩, trivial⟩⟩, ⟨row66, ⟨row65, ⟨row64, trivial, trivial⟩, trivial⟩, ⟨row67, trivial, trivial⟩⟩⟩⟩, ⟨row80, ⟨row74, ⟨row71, ⟨row70, ⟨row69, trivial, trivial⟩, trivial⟩, ⟨row73, ⟨row72, trivial, trivial⟩, trivial⟩⟩, ⟨row77, ⟨row76, ⟨row75, trivial, trivial⟩, trivial⟩, ⟨row79, ⟨row78, trivial, trivial⟩, trivial⟩⟩⟩, ⟨row86, ⟨row83, ⟨row82, ⟨row81, trivial, trivial⟩, trivial⟩, ⟨row85, ⟨row84, trivial, trivial⟩, trivial⟩⟩, ⟨row89, ⟨row88, ⟨row87, trivial, trivial⟩, trivial⟩, ⟨row90, trivial, trivial⟩⟩⟩⟩⟩⟩, ⟨row137, ⟨row114, ⟨row103, ⟨row97, ⟨row94, ⟨row93, ⟨row92, trivial, trivial⟩, trivial⟩, ⟨row96, ⟨row95, trivial, trivial⟩, trivial⟩⟩, ⟨row100, ⟨row99, ⟨row98, trivial, trivial⟩, trivial⟩, ⟨row102, ⟨row101, trivial, trivial⟩, trivial⟩⟩⟩, ⟨row109, ⟨row106, ⟨row105, ⟨row104, trivial, trivial⟩, trivial⟩, ⟨row108, ⟨row107, trivial, trivial⟩, trivial⟩⟩, ⟨row112, ⟨row111, ⟨row110, trivial, trivial⟩, trivial⟩, ⟨row113, trivial, trivial⟩⟩⟩⟩, ⟨row126, ⟨row120, ⟨row117, ⟨row116, ⟨row115, trivial, trivial⟩, trivial⟩, ⟨row119, ⟨row118, trivial, trivial⟩, trivial⟩⟩, ⟨row123, ⟨row122, ⟨row121, trivial, trivial⟩, trivial⟩, ⟨row125, ⟨row124, trivial, trivial⟩, trivial⟩⟩⟩, ⟨row132, ⟨row129, ⟨row128, ⟨row127, trivial, trivial⟩, trivial⟩, ⟨row131, ⟨row130, trivial, trivial⟩, trivial⟩⟩, ⟨row135, ⟨row134, ⟨row133, trivial, trivial⟩, trivial⟩, ⟨row136, trivial, trivial⟩⟩⟩⟩⟩, ⟨row160, ⟨row149, ⟨row143, ⟨row140, ⟨row139, ⟨row138, trivial, trivial⟩, trivial⟩, ⟨row142, ⟨row141, trivial, trivial⟩, trivial⟩⟩, ⟨row146, ⟨row145, ⟨row144, trivial, trivial⟩, trivial⟩, ⟨row148, ⟨row147, trivial, trivial⟩, trivial⟩⟩⟩, ⟨row155, ⟨row152, ⟨row151, ⟨row150, trivial, trivial⟩, trivial⟩, ⟨row154, ⟨row153, trivial, trivial⟩, trivial⟩⟩, ⟨row158, ⟨row157, ⟨row156, trivial, trivial⟩, trivial⟩, ⟨row159, trivial, trivial⟩⟩⟩⟩, ⟨row171, ⟨row166, ⟨row163, ⟨row162, ⟨row161, trivial, trivial⟩, trivial⟩, ⟨row165, ⟨row164, trivial, trivial⟩, trivial⟩⟩, ⟨row169, ⟨row168, ⟨row167, trivial, trivial⟩, trivial⟩, ⟨row170, trivial, trivial⟩⟩⟩, ⟨row177, ⟨row174, ⟨row173, ⟨row172, trivial, trivial⟩, trivial⟩, ⟨row176, ⟨row175, trivial, trivial⟩, trivial⟩⟩, ⟨row180, ⟨row179, ⟨row178, trivial, trivial⟩, trivial⟩, ⟨row181, trivial, trivial⟩⟩⟩⟩⟩⟩⟩
theorem mix : Tryz.prog.follows .mixedOrders = true := by kernel_rfl
def tb : Tab := .marks [10, 11, 26, 50, 91] [91] [] tab
theorem tb_ok : tb.ok Tryz.prog := tab_ok
def tbF (o : List (Nat × OT)) : Tab := .marks [10, 11, 26, 50, 91] [91] o tab
theorem tbF_ok (o : List (Nat × OT)) : (tbF o).ok Tryz.prog := tab_ok
end Go.Proofs.YtdbnppipgblajaaGreatDoor
namespace Go.Proofs.YtdbnppipgblajaaGreatDoor
open Go.RowKit
set_option linter.unusedSimpArgs false
set_option linter.unusedVariables false
set_option maxRecDepth 100000
theorem szStored_c (x : DStored) (left : Int) (hx : x.it) (h0 : 0 ≤ left) (h1 : left ≤ 1048576) : Fun1 Tryz.prog 74 [.agg x.enc, .one (.lit (.int .i64 left))] (.one (.lit (.int .i64 (szF x.wt left)))) := by
  unfold DStored.it at hx
  obtain ⟨hx0, hx1, hx2⟩ := hx
  have hw : x.wt = x.name.size + x.text.size := rfl
  refine fun1_of_vc tb_ok mix (fn := Tryz.f74) Tryz.func74 rfl (by kernel_rfl) (by kernel_rfl) (by simp [Tryz.f74]) (by rfl) ?_
  (conv => whnf)
  refine ⟨left - (x.name.size : Nat), wrap64_id (by omega) (by omega), ?_⟩; (conv => whnf)
  (split <;> rename_i h <;> (try simp only [decide_eq_true_eq, decide_eq_false_iff_not, Bool.not_eq_true', Bool.not_eq_false', Bool.not_eq_true, Bool.not_eq_false, List.length_map] at h) <;> conv => whnf)
  · refine ⟨close_int ?_, trivial⟩; have := szF_or x.wt left; omega
  refine ⟨left - (x.name.size : Nat) - (x.text.size : Nat), wrap64_id (by omega) (by omega), ?_⟩; (conv => whnf)
  (split <;> rename_i h <;> (try simp only [decide_eq_true_eq, decide_eq_false_iff_not, Bool.not_eq_true', Bool.not_eq_false', Bool.not_eq_true, Bool.not_eq_false, List.length_map] at h) <;> conv => whnf)
  · refine ⟨close_int ?_, trivial⟩; have := szF_or x.wt left; omega
  refine ⟨close_int ?_, trivial⟩; have := szF_or x.wt left; omega
theorem toStored_c (x : DStored) (h : x.wt ≤ 1048576) : Fun1 Tryz.prog 87 [.agg x.enc] (.agg x.enc) := by
  have hw : x.wt = x.name.size + x.text.size := rfl
  refine fun1_of_vc tb_ok mix (fn := Tryz.f87) Tryz.func87 rfl (by kernel_rfl) (by kernel_rfl) (by simp [Tryz.f87]) (by exact DStored.enc_nb _) ?_
  (conv => whnf)
  exact (by repeat' (first | exact trivial | exact close_int rfl | exact close_str rfl | exact close_bool rfl | exact close_int (by omega) | exact close_row rfl rfl (by first | rfl | simp) (by first | rfl | simp) | exact close_nil (by first | rfl | simp) | exact rfl | apply And.intro | apply closeTs_cons rfl))
theorem eqStored_c (x : DStored) (hx : x.ok) : Fun1 Tryz.prog 99 [.agg x.enc, .agg x.enc] (.one (.lit (.bool true))) := by
  unfold DStored.ok at hx
  obtain ⟨hx0, hx1, hx2⟩ := hx
  refine fun1_of_vc tb_ok mix (fn := Tryz.f99) Tryz.func99 rfl (by kernel_rfl) (by kernel_rfl) (by simp [Tryz.f99]) (by rfl) ?_
  (conv => whnf)
  (first | (split <;> rename_i h <;> first | (exfalso; first | (simp at h; done) | (simp at h; omega) | (simp_all; done) | (simp_all; omega)) | (conv => whnf)) | skip)
  (first | (split <;> rename_i h <;> first | (exfalso; first | (simp at h; done) | (simp at h; omega) | (simp_all; done) | (simp_all; omega)) | (conv => whnf)) | skip)
  (first | (split <;> rename_i h <;> first | (exfalso; first | (simp at h; done) | (simp at h; omega) | (simp_all; done) | (simp_all; omega)) | (conv => whnf)) | skip)
  exact (by repeat' (first | exact trivial | exact close_int rfl | exact close_str rfl | exact close_bool rfl | exact close_int (by omega) | exact close_row rfl rfl (by first | rfl | simp) (by first | rfl | simp) | exact close_nil (by first | rfl | simp) | exact rfl | apply And.intro | apply closeTs_cons rfl))
theorem szStoredS_c (x : List DStored) (left : Int) (hl : x.length ≤ 9223372036854775807) (hx : ∀ y ∈ x, y.it) (h0 : 0 ≤ left) (h1 : left ≤ 1048576) : Fun1 Tryz.prog 51 [.one (.row true 3 (x.map DStored.enc)), .one (.lit (.int .i64 left))] (.one (.lit (.int .i64 (szF (wL DStored.wt x) left)))) := by
  have hw : wL DStored.wt x = x.length + (x.map DStored.wt).sum := rfl
  refine fun1_of_vc tb_ok mix (fn := Tryz.f51) Tryz.func51 rfl (by kernel_rfl) (by kernel_rfl) (by simp [Tryz.f51]) (by rfl) ?_
  (conv => whnf)
  refine ⟨left - (x.length : Nat), by rw [List.length_map]; exact wrap64_id (by omega) (by omega), ?_⟩; (conv => whnf)
  (split <;> rename_i h <;> (try simp only [decide_eq_true_eq, decide_eq_false_iff_not, Bool.not_eq_true', Bool.not_eq_false', Bool.not_eq_true, Bool.not_eq_false, List.length_map] at h) <;> conv => whnf)
  · refine ⟨close_int ?_, trivial⟩; have := szF_or (wL DStored.wt x) left; omega
  refine ⟨LG (fun i : Nat => i ≤ x.length ∧ ((x.length + ((x.take i).map DStored.wt).sum : Nat) : Int) ≤ left) (fun i => x.length - i) (fun i => AS.of [(0, .one (.row true 3 (x.map DStored.enc))), (1, .one (.lit (.int .i64 (left - ((x.length + ((x.take i).map DStored.wt).sum : Nat) : Int))))), (5, .one (.lit (.int .i64 (i : Nat))))] []), lg_init 0 ⟨by omega, by simp; omega⟩ (weak_of (by refine all_cons rfl (all_cons (eq_int rfl (by simp)) (all_cons rfl all_nil))) all_nil rfl rfl), ?_⟩
  rintro σ k ⟨i, ⟨hi, hc⟩, rfl, rfl⟩
  refine ⟨_, Weak.refl _, ?_⟩
  (conv => whnf)
  (split <;> rename_i h <;> (try simp only [decide_eq_true_eq, decide_eq_false_iff_not, Bool.not_eq_true', Bool.not_eq_false', Bool.not_eq_true, Bool.not_eq_false, List.length_map] at h) <;> conv => whnf)
  · have hlt : i < x.length := by simpa using h
    have hs := wsum_take_succ (f := DStored.wt) hlt
    have hle := sum_take_le DStored.wt x (i + 1)
    refine ⟨i, rfl, _, at_map hlt, ?_⟩; (conv => whnf)
    have hy := hx x[i] (List.getElem_mem hlt)
    have hq := szF_or (x[i].wt) (left - ((x.length + ((x.take i).map DStored.wt).sum : Nat) : Int))
    refine ⟨_, _, szStored_c x[i] (left - ((x.length + ((x.take i).map DStored.wt).sum : Nat) : Int)) hy (by omega) (by omega), (by repeat' (first | exact lends_nil | exact lend_dead | apply lends_cons | apply lend_agg | apply lend_one | exact all2_nil | apply all2_cons | exact la_lit rfl | exact la_int (by first | rfl | omega) | exact la_row rfl rfl | exact la_loc rfl rfl rfl (by first | rfl | simp [mkL_length]) (by first | rfl | simp) | exact la_nil rfl | apply la_fn rfl | exact lend_same rfl rfl | exact lend_bor rfl rfl)), ?_⟩; (conv => whnf)
    (split <;> rename_i h2 <;> (try simp only [decide_eq_true_eq, decide_eq_false_iff_not, Bool.not_eq_true', Bool.not_eq_false', Bool.not_eq_true, Bool.not_eq_false, List.length_map] at h2) <;> conv => whnf)
    · refine ⟨close_int ?_, trivial⟩; have := szF_or (wL DStored.wt x) left; omega
    refine ⟨((i + 1 : Nat) : Int), by rw [← wrap64_id] <;> omega, ?_⟩; (conv => whnf)
    exact lg_back (i + 1) ⟨by omega, by omega⟩ (by (try dsimp only); omega) (weak_of (by refine all_cons rfl (all_cons (eq_int rfl (by omega)) (all_cons rfl all_nil))) all_nil rfl rfl)
  · have : i = x.length := by simp at h; omega
    subst this
    rw [List.take_length] at hc
    refine ⟨close_int ?_, trivial⟩; rw [List.take_length]; have := szF_or (wL DStored.wt x) left; omega
theorem toStoredS_c (x : List DStored) (h : wL DStored.wt x ≤ 1048576) : Fun1 Tryz.prog 60 [.one (.row true 3 (x.map DStored.enc))] (.one (.row true 3 (x.map DStored.enc))) := by
  have hw : wL DStored.wt x = x.length + (x.map DStored.wt).sum := rfl
  refine fun1_of_vc tb_ok mix (fn := Tryz.f60) Tryz.func60 rfl (by kernel_rfl) (by kernel_rfl) (by simp [Tryz.f60]) (by show AV.nb (4 + 1) _ = true; exact nb_map (n := 4) (fun y => DStored.enc_nbn 4 y) _) ?_
  (conv => whnf)
  refine ⟨x.length, by simp, Int.le_refl _, by simp; omega, by simp [maxLen]; omega, ?_⟩; (conv => whnf)
  refine ⟨LG (fun i : Nat => i ≤ x.length) (fun i => x.length - i) (fun i => AS.of [(0, .one (.row true 3 (x.map DStored.enc))), (3, .one (.loc 112 0 x.length)), (4, .one (.lit (.int .i64 (i : Nat))))] [(112, .row true 3 ((x.take i).map DStored.enc ++ List.replicate (x.length - i) [.lit (.string .empty), .lit (.string .empty), .lit (.int .i64 0)]))]), lg_init 0 (by omega) (weak_of (by repeat (first | refine all_cons (by first | rfl | exact eq_int rfl (by first | rfl | omega | (simp; done) | (simp; omega)) | exact eq_loc rfl (by first | rfl | omega | (simp; done) | (simp; omega)) | exact eq_bool rfl (by simp_all)) ?_ | exact all_nil)) (by exact all_cons (eq_row rfl (by simp)) all_nil) rfl rfl), ?_⟩
  rintro σ k ⟨i, hi, rfl, rfl⟩
  refine ⟨_, Weak.refl _, ?_⟩
  by_cases hlt : i < x.length
  · have hd : List.replicate (x.length - i) ([.lit (.string .empty), .lit (.string .empty), .lit (.int .i64 0)] : List AV) = [.lit (.string .empty), .lit (.string .empty), .lit (.int .i64 0)] :: List.replicate (x.length - (i + 1)) [.lit (.string .empty), .lit (.string .empty), .lit (.int .i64 0)] := by rw [show x.length - i = (x.length - (i + 1)) + 1 by omega]; rfl
    have hml : ((x.take i).map DStored.enc).length = 0 + i := by simp; omega
    have hts : (x.take (i + 1)).map DStored.enc = (x.take i).map DStored.enc ++ [DStored.enc x[i]] := by rw [List.take_succ_eq_append_getElem hlt, List.map_append]; rfl
    have hwi : DStored.wt x[i] ≤ wL DStored.wt x := by have h1 := wsum_take_succ (f := DStored.wt) hlt; have h2 := sum_take_le DStored.wt x (i + 1); omega
    have hq : (x.take i).map DStored.enc ++ List.replicate (x.length - i) ([.lit (.string .empty), .lit (.string .empty), .lit (.int .i64 0)] : List AV) = (x.take i).map DStored.enc ++ [.lit (.string .empty), .lit (.string .empty), .lit (.int .i64 0)] :: List.replicate (x.length - (i + 1)) [.lit (.string .empty), .lit (.string .empty), .lit (.int .i64 0)] := by rw [hd]
    (conv => whnf)
    split <;> rename_i hb
    case h_2 => simp at hb; omega
    clear hb; (conv => whnf)
    refine ⟨i, rfl, _, at_map hlt, ?_⟩; (conv => whnf)
    refine ⟨_, _, toStored_c x[i] (by omega), (by repeat' (first | exact lends_nil | exact lend_dead | apply lends_cons | apply lend_agg | apply lend_one | exact all2_nil | apply all2_cons | exact la_lit rfl | exact la_int (by first | rfl | omega) | exact la_row rfl rfl | exact la_loc rfl rfl rfl (by first | rfl | simp [mkL_length]) (by first | rfl | simp) | exact la_nil rfl | apply la_fn rfl | exact lend_same rfl rfl | exact lend_bor rfl rfl)), ?_⟩; (conv => whnf)
    refine ⟨i, rfl, hlt, ?_⟩; (conv => whnf)
    refine ⟨_, at_eq hq hml, ?_⟩; (conv => whnf)
    refine ⟨_, set_eq hq hml, ?_⟩; (conv => whnf)
    refine ⟨((i + 1 : Nat) : Int), by rw [← wrap64_id] <;> omega, ?_⟩; (conv => whnf)
    exact lg_back (i + 1) (by omega) (by (try dsimp only); omega) (weak_of (by repeat (first | refine all_cons (by first | rfl | exact eq_int rfl (by first | rfl | omega | (simp; done) | (simp; omega)) | exact eq_loc rfl (by first | rfl | omega | (simp; done) | (simp; omega)) | exact eq_bool rfl (by simp_all)) ?_ | exact all_nil)) (by exact all_cons (eq_row rfl (by rw [hts]; exact (List.append_assoc _ [_] _).symm)) all_nil) rfl rfl)
  · have : i = x.length := by omega
    subst this
    (conv => whnf)
    split <;> rename_i hb
    case h_1 => simp at hb
    clear hb; (conv => whnf)
    exact ⟨close_row rfl rfl (by simp) (by simp), trivial⟩
theorem eqStoredS_c (x : List DStored) (hl : x.length ≤ 4294967296) (hx : ∀ y ∈ x, y.ok) : Fun1 Tryz.prog 73 [.one (.row true 3 (x.map DStored.enc)), .one (.row true 3 (x.map DStored.enc))] (.one (.lit (.bool true))) := by
  refine fun1_of_vc tb_ok mix (fn := Tryz.f73) Tryz.func73 rfl (by kernel_rfl) (by kernel_rfl) (by simp [Tryz.f73]) (by rfl) ?_
  (conv => whnf)
  (first | (split <;> rename_i h <;> first | (exfalso; first | (simp at h; done) | (simp at h; omega) | (simp_all; done) | (simp_all; omega)) | (conv => whnf)) | skip)
  refine ⟨LG (fun i : Nat => i ≤ x.length) (fun i => x.length - i) (fun i => AS.of [(0, .one (.row true 3 (x.map DStored.enc))), (1, .one (.row true 3 (x.map DStored.enc))), (5, .one (.lit (.int .i64 (i : Nat))))] []), lg_init 0 (by omega) (weak_of (by repeat (first | refine all_cons (by first | rfl | exact eq_int rfl (by first | rfl | omega | (simp; done) | (simp; omega)) | exact eq_loc rfl (by first | rfl | omega | (simp; done) | (simp; omega)) | exact eq_bool rfl (by simp_all)) ?_ | exact all_nil)) (by repeat (first | refine all_cons (by first | rfl | exact eq_int rfl (by first | rfl | omega | (simp; done) | (simp; omega)) | exact eq_loc rfl (by first | rfl | omega | (simp; done) | (simp; omega)) | exact eq_bool rfl (by simp_all)) ?_ | exact all_nil)) rfl rfl), ?_⟩
  rintro σ k ⟨i, hi, rfl, rfl⟩
  refine ⟨_, Weak.refl _, ?_⟩
  (conv => whnf)
  (split <;> rename_i h <;> (try simp only [decide_eq_true_eq, decide_eq_false_iff_not, Bool.not_eq_true', Bool.not_eq_false', Bool.not_eq_true, Bool.not_eq_false, List.length_map] at h) <;> conv => whnf)
  · have hlt : i < x.length := by simpa using h
    refine ⟨i, rfl, _, at_map hlt, ?_⟩; (conv => whnf)
    refine ⟨i, rfl, _, at_map hlt, ?_⟩; (conv => whnf)
    have hy := hx x[i] (List.getElem_mem hlt)
    refine ⟨_, _, eqStored_c x[i] hy, (by repeat' (first | exact lends_nil | exact lend_dead | apply lends_cons | apply lend_agg | apply lend_one | exact all2_nil | apply all2_cons | exact la_lit rfl | exact la_int (by first | rfl | omega) | exact la_row rfl rfl | exact la_loc rfl rfl rfl (by first | rfl | simp [mkL_length]) (by first | rfl | simp) | exact la_nil rfl | apply la_fn rfl | exact lend_same rfl rfl | exact lend_bor rfl rfl)), ?_⟩; (conv => whnf)
    refine ⟨((i + 1 : Nat) : Int), by rw [← wrap64_id] <;> omega, ?_⟩; (conv => whnf)
    exact lg_back (i + 1) (by omega) (by (try dsimp only); omega) (weak_of (by repeat (first | refine all_cons (by first | rfl | exact eq_int rfl (by first | rfl | omega | (simp; done) | (simp; omega)) | exact eq_loc rfl (by first | rfl | omega | (simp; done) | (simp; omega)) | exact eq_bool rfl (by simp_all)) ?_ | exact all_nil)) (by repeat (first | refine all_cons (by first | rfl | exact eq_int rfl (by first | rfl | omega | (simp; done) | (simp; omega)) | exact eq_loc rfl (by first | rfl | omega | (simp; done) | (simp; omega)) | exact eq_bool rfl (by simp_all)) ?_ | exact all_nil)) rfl rfl)
  · exact (by repeat' (first | exact trivial | exact close_int rfl | exact close_str rfl | exact close_bool rfl | exact close_int (by omega) | exact close_row rfl rfl (by first | rfl | simp) (by first | rfl | simp) | exact close_nil (by first | rfl | simp) | exact rfl | apply And.intro | apply closeTs_cons rfl))
theorem szDrive_c (x : DDrive) (left : Int) (hx : x.it) (h0 : 0 ≤ left) (h1 : left ≤ 1048576) : Fun1 Tryz.prog 28 [.agg x.enc, .one (.lit (.int .i64 left))] (.one (.lit (.int .i64 (szF x.wt left)))) := by
  unfold DDrive.it at hx
  obtain ⟨hx0, hx1⟩ := hx
  have hw : x.wt = wL DStored.wt x.files := rfl
  refine fun1_of_vc tb_ok mix (fn := Tryz.f28) Tryz.func28 rfl (by kernel_rfl) (by kernel_rfl) (by simp [Tryz.f28]) (by rfl) ?_
  (conv => whnf)
  have hs0 := szF_or (wL DStored.wt x.files) (left)
  refine ⟨_, _, szStoredS_c x.files (left) hx0.1 hx0.2 (by omega) (by omega), (by repeat' (first | exact lends_nil | exact lend_dead | apply lends_cons | apply lend_agg | apply lend_one | exact all2_nil | apply all2_cons | exact la_lit rfl | exact la_int (by first | rfl | omega) | exact la_row rfl rfl | exact la_loc rfl rfl rfl (by first | rfl | simp [mkL_length]) (by first | rfl | simp) | exact la_nil rfl | apply la_fn rfl | exact lend_same rfl rfl | exact lend_bor rfl rfl)), ?_⟩; (conv => whnf)
  (split <;> rename_i h <;> (try simp only [decide_eq_true_eq, decide_eq_false_iff_not, Bool.not_eq_true', Bool.not_eq_false', Bool.not_eq_true, Bool.not_eq_false, List.length_map] at h) <;> conv => whnf)
  · refine ⟨close_int ?_, trivial⟩; have := szF_or x.wt left; omega
  refine ⟨close_int ?_, trivial⟩; have := szF_or x.wt left; omega
theorem toDrive_c (x : DDrive) (h : x.wt ≤ 1048576) : Fun1 Tryz.prog 35 [.agg x.enc] (.agg x.enc) := by
  have hw : x.wt = wL DStored.wt x.files := rfl
  refine fun1_of_vc tb_ok mix (fn := Tryz.f35) Tryz.func35 rfl (by kernel_rfl) (by kernel_rfl) (by simp [Tryz.f35]) (by exact DDrive.enc_nb _) ?_
  (conv => whnf)
  refine ⟨_, _, toStoredS_c x.files (by omega), (by repeat' (first | exact lends_nil | exact lend_dead | apply lends_cons | apply lend_agg | apply lend_one | exact all2_nil | apply all2_cons | exact la_lit rfl | exact la_int (by first | rfl | omega) | exact la_row rfl rfl | exact la_loc rfl rfl rfl (by first | rfl | simp [mkL_length]) (by first | rfl | simp) | exact la_nil rfl | apply la_fn rfl | exact lend_same rfl rfl | exact lend_bor rfl rfl)), ?_⟩; (conv => whnf)
  exact (by repeat' (first | exact trivial | exact close_int rfl | exact close_str rfl | exact close_bool rfl | exact close_int (by omega) | exact close_row rfl rfl (by first | rfl | simp) (by first | rfl | simp) | exact close_nil (by first | rfl | simp) | exact rfl | apply And.intro | apply closeTs_cons rfl))
theorem eqDrive_c (x : DDrive) (hx : x.ok) : Fun1 Tryz.prog 49 [.agg x.enc, .agg x.enc] (.one (.lit (.bool true))) := by
  unfold DDrive.ok at hx
  obtain ⟨hx0, hx1⟩ := hx
  refine fun1_of_vc tb_ok mix (fn := Tryz.f49) Tryz.func49 rfl (by kernel_rfl) (by kernel_rfl) (by simp [Tryz.f49]) (by rfl) ?_
  (conv => whnf)
  refine ⟨_, _, eqStoredS_c x.files hx0.1 hx0.2, (by repeat' (first | exact lends_nil | exact lend_dead | apply lends_cons | apply lend_agg | apply lend_one | exact all2_nil | apply all2_cons | exact la_lit rfl | exact la_int (by first | rfl | omega) | exact la_row rfl rfl | exact la_loc rfl rfl rfl (by first | rfl | simp [mkL_length]) (by first | rfl | simp) | exact la_nil rfl | apply la_fn rfl | exact lend_same rfl rfl | exact lend_bor rfl rfl)), ?_⟩; (conv => whnf)
  (first | (split <;> rename_i h <;> first | (exfalso; first | (simp at h; done) | (simp at h; omega) | (simp_all; done) | (simp_all; omega)) | (conv => whnf)) | skip)
  exact (by repeat' (first | exact trivial | exact close_int rfl | exact close_str rfl | exact close_bool rfl | exact close_int (by omega) | exact close_row rfl rfl (by first | rfl | simp) (by first | rfl | simp) | exact close_nil (by first | rfl | simp) | exact rfl | apply And.intro | apply closeTs_cons rfl))
theorem szDriveS_c (x : List DDrive) (left : Int) (hl : x.length ≤ 9223372036854775807) (hx : ∀ y ∈ x, y.it) (h0 : 0 ≤ left) (h1 : left ≤ 1048576) : Fun1 Tryz.prog 13 [.one (.row true 2 (x.map DDrive.enc)), .one (.lit (.int .i64 left))] (.one (.lit (.int .i64 (szF (wL DDrive.wt x) left)))) := by
  have hw : wL DDrive.wt x = x.length + (x.map DDrive.wt).sum := rfl
  refine fun1_of_vc tb_ok mix (fn := Tryz.f13) Tryz.func13 rfl (by kernel_rfl) (by kernel_rfl) (by simp [Tryz.f13]) (by rfl) ?_
  (conv => whnf)
  refine ⟨left - (x.length : Nat), by rw [List.length_map]; exact wrap64_id (by omega) (by omega), ?_⟩; (conv => whnf)
  (split <;> rename_i h <;> (try simp only [decide_eq_true_eq, decide_eq_false_iff_not, Bool.not_eq_true', Bool.not_eq_false', Bool.not_eq_true, Bool.not_eq_false, List.length_map] at h) <;> conv => whnf)
  · refine ⟨close_int ?_, trivial⟩; have := szF_or (wL DDrive.wt x) left; omega
  refine ⟨LG (fun i : Nat => i ≤ x.length ∧ ((x.length + ((x.take i).map DDrive.wt).sum : Nat) : Int) ≤ left) (fun i => x.length - i) (fun i => AS.of [(0, .one (.row true 2 (x.map DDrive.enc))), (1, .one (.lit (.int .i64 (left - ((x.length + ((x.take i).map DDrive.wt).sum : Nat) : Int))))), (5, .one (.lit (.int .i64 (i : Nat))))] []), lg_init 0 ⟨by omega, by simp; omega⟩ (weak_of (by refine all_cons rfl (all_cons (eq_int rfl (by simp)) (all_cons rfl all_nil))) all_nil rfl rfl), ?_⟩
  rintro σ k ⟨i, ⟨hi, hc⟩, rfl, rfl⟩
  refine ⟨_, Weak.refl _, ?_⟩
  (conv => whnf)
  (split <;> rename_i h <;> (try simp only [decide_eq_true_eq, decide_eq_false_iff_not, Bool.not_eq_true', Bool.not_eq_false', Bool.not_eq_true, Bool.not_eq_false, List.length_map] at h) <;> conv => whnf)
  · have hlt : i < x.length := by simpa using h
    have hs := wsum_take_succ (f := DDrive.wt) hlt
    have hle := sum_take_le DDrive.wt x (i + 1)
    refine ⟨i, rfl, _, at_map hlt, ?_⟩; (conv => whnf)
    have hy := hx x[i] (List.getElem_mem hlt)
    have hq := szF_or (x[i].wt) (left - ((x.length + ((x.take i).map DDrive.wt).sum : Nat) : Int))
    refine ⟨_, _, szDrive_c x[i] (left - ((x.length + ((x.take i).map DDrive.wt).sum : Nat) : Int)) hy (by omega) (by omega), (by repeat' (first | exact lends_nil | exact lend_dead | apply lends_cons | apply lend_agg | apply lend_one | exact all2_nil | apply all2_cons | exact la_lit rfl | exact la_int (by first | rfl | omega) | exact la_row rfl rfl | exact la_loc rfl rfl rfl (by first | rfl | simp [mkL_length]) (by first | rfl | simp) | exact la_nil rfl | apply la_fn rfl | exact lend_same rfl rfl | exact lend_bor rfl rfl)), ?_⟩; (conv => whnf)
    (split <;> rename_i h2 <;> (try simp only [decide_eq_true_eq, decide_eq_false_iff_not, Bool.not_eq_true', Bool.not_eq_false', Bool.not_eq_true, Bool.not_eq_false, List.length_map] at h2) <;> conv => whnf)
    · refine ⟨close_int ?_, trivial⟩; have := szF_or (wL DDrive.wt x) left; omega
    refine ⟨((i + 1 : Nat) : Int), by rw [← wrap64_id] <;> omega, ?_⟩; (conv => whnf)
    exact lg_back (i + 1) ⟨by omega, by omega⟩ (by (try dsimp only); omega) (weak_of (by refine all_cons rfl (all_cons (eq_int rfl (by omega)) (all_cons rfl all_nil))) all_nil rfl rfl)
  · have : i = x.length := by simp at h; omega
    subst this
    rw [List.take_length] at hc
    refine ⟨close_int ?_, trivial⟩; rw [List.take_length]; have := szF_or (wL DDrive.wt x) left; omega
theorem toDriveS_c (x : List DDrive) (h : wL DDrive.wt x ≤ 1048576) : Fun1 Tryz.prog 18 [.one (.row true 2 (x.map DDrive.enc))] (.one (.row true 2 (x.map DDrive.enc))) := by
  have hw : wL DDrive.wt x = x.length + (x.map DDrive.wt).sum := rfl
  refine fun1_of_vc tb_ok mix (fn := Tryz.f18) Tryz.func18 rfl (by kernel_rfl) (by kernel_rfl) (by simp [Tryz.f18]) (by show AV.nb (4 + 1) _ = true; exact nb_map (n := 4) (fun y => DDrive.enc_nbn 3 y) _) ?_
  (conv => whnf)
  refine ⟨x.length, by simp, Int.le_refl _, by simp; omega, by simp [maxLen]; omega, ?_⟩; (conv => whnf)
  refine ⟨LG (fun i : Nat => i ≤ x.length) (fun i => x.length - i) (fun i => AS.of [(0, .one (.row true 2 (x.map DDrive.enc))), (3, .one (.loc 112 0 x.length)), (4, .one (.lit (.int .i64 (i : Nat))))] [(112, .row true 2 ((x.take i).map DDrive.enc ++ List.replicate (x.length - i) [.lit (.slice none 0 0), .lit (.int .i64 0)]))]), lg_init 0 (by omega) (weak_of (by repeat (first | refine all_cons (by first | rfl | exact eq_int rfl (by first | rfl | omega | (simp; done) | (simp; omega)) | exact eq_loc rfl (by first | rfl | omega | (simp; done) | (simp; omega)) | exact eq_bool rfl (by simp_all)) ?_ | exact all_nil)) (by exact all_cons (eq_row rfl (by simp)) all_nil) rfl rfl), ?_⟩
  rintro σ k ⟨i, hi, rfl, rfl⟩
  refine ⟨_, Weak.refl _, ?_⟩
  by_cases hlt : i < x.length
  · have hd : List.replicate (x.length - i) ([.lit (.slice none 0 0), .lit (.int .i64 0)] : List AV) = [.lit (.slice none 0 0), .lit (.int .i64 0)] :: List.replicate (x.length - (i + 1)) [.lit (.slice none 0 0), .lit (.int .i64 0)] := by rw [show x.length - i = (x.length - (i + 1)) + 1 by omega]; rfl
    have hml : ((x.take i).map DDrive.enc).length = 0 + i := by simp; omega
    have hts : (x.take (i + 1)).map DDrive.enc = (x.take i).map DDrive.enc ++ [DDrive.enc x[i]] := by rw [List.take_succ_eq_append_getElem hlt, List.map_append]; rfl
    have hwi : DDrive.wt x[i] ≤ wL DDrive.wt x := by have h1 := wsum_take_succ (f := DDrive.wt) hlt; have h2 := sum_take_le DDrive.wt x (i + 1); omega
    have hq : (x.take i).map DDrive.enc ++ List.replicate (x.length - i) ([.lit (.slice none 0 0), .lit (.int .i64 0)] : List AV) = (x.take i).map DDrive.enc ++ [.lit (.slice none 0 0), .lit (.int .i64 0)] :: List.replicate (x.length - (i + 1)) [.lit (.slice none 0 0), .lit (.int .i64 0)] := by rw [hd]
    (conv => whnf)
    split <;> rename_i hb
    case h_2 => simp at hb; omega
    clear hb; (conv => whnf)
    refine ⟨i, rfl, _, at_map hlt, ?_⟩; (conv => whnf)
    refine ⟨_, _, toDrive_c x[i] (by omega), (by repeat' (first | exact lends_nil | exact lend_dead | apply lends_cons | apply lend_agg | apply lend_one | exact all2_nil | apply all2_cons | exact la_lit rfl | exact la_int (by first | rfl | omega) | exact la_row rfl rfl | exact la_loc rfl rfl rfl (by first | rfl | simp [mkL_length]) (by first | rfl | simp) | exact la_nil rfl | apply la_fn rfl | exact lend_same rfl rfl | exact lend_bor rfl rfl)), ?_⟩; (conv => whnf)
    refine ⟨i, rfl, hlt, ?_⟩; (conv => whnf)
    refine ⟨_, at_eq hq hml, ?_⟩; (conv => whnf)
    refine ⟨_, set_eq hq hml, ?_⟩; (conv => whnf)
    refine ⟨((i + 1 : Nat) : Int), by rw [← wrap64_id] <;> omega, ?_⟩; (conv => whnf)
    exact lg_back (i + 1) (by omega) (by (try dsimp only); omega) (weak_absorb (r := 112) (s := 320) ((x.take i).map DDrive.enc) (List.replicate (x.length - (i + 1)) [.lit (.slice none 0 0), .lit (.int .i64 0)]) [] [.lit (.int .i64 x[i].room)] (es2 := x[i].files.map DStored.enc) (by decide) rfl rfl (cellRow_map (fun y => rfl) _) (by simp [cellRow, AV.isCell]) rfl rfl (weak_of (by repeat (first | refine all_cons (by first | rfl | exact eq_int rfl (by first | rfl | omega | (simp; done) | (simp; omega)) | exact eq_loc rfl (by first | rfl | omega | (simp; done) | (simp; omega)) | exact eq_bool rfl (by simp_all)) ?_ | exact all_nil)) (by exact all_cons (eq_row rfl (by rw [hts]; exact (List.append_assoc _ [_] _).symm)) all_nil) rfl rfl))
  · have : i = x.length := by omega
    subst this
    (conv => whnf)
    split <;> rename_i hb
    case h_1 => simp at hb
    clear hb; (conv => whnf)
    exact ⟨close_row rfl rfl (by simp) (by simp), trivial⟩
theorem eqDriveS_c (x : List DDrive) (hl : x.length ≤ 4294967296) (hx : ∀ y ∈ x, y.ok) : Fun1 Tryz.prog 25 [.one (.row true 2 (x.map DDrive.enc)), .one (.row true 2 (x.map DDrive.enc))] (.one (.lit (.bool true))) := by
  refine fun1_of_vc tb_ok mix (fn := Tryz.f25) Tryz.func25 rfl (by kernel_rfl) (by kernel_rfl) (by simp [Tryz.f25]) (by rfl) ?_
  (conv => whnf)
  (first | (split <;> rename_i h <;> first | (exfalso; first | (simp at h; done) | (simp at h; omega) | (simp_all; done) | (simp_all; omega)) | (conv => whnf)) | skip)
  refine ⟨LG (fun i : Nat => i ≤ x.length) (fun i => x.length - i) (fun i => AS.of [(0, .one (.row true 2 (x.map DDrive.enc))), (1, .one (.row true 2 (x.map DDrive.enc))), (5, .one (.lit (.int .i64 (i : Nat))))] []), lg_init 0 (by omega) (weak_of (by repeat (first | refine all_cons (by first | rfl | exact eq_int rfl (by first | rfl | omega | (simp; done) | (simp; omega)) | exact eq_loc rfl (by first | rfl | omega | (simp; done) | (simp; omega)) | exact eq_bool rfl (by simp_all)) ?_ | exact all_nil)) (by repeat (first | refine all_cons (by first | rfl | exact eq_int rfl (by first | rfl | omega | (simp; done) | (simp; omega)) | exact eq_loc rfl (by first | rfl | omega | (simp; done) | (simp; omega)) | exact eq_bool rfl (by simp_all)) ?_ | exact all_nil)) rfl rfl), ?_⟩
  rintro σ k ⟨i, hi, rfl, rfl⟩
  refine ⟨_, Weak.refl _, ?_⟩
  (conv => whnf)
  (split <;> rename_i h <;> (try simp only [decide_eq_true_eq, decide_eq_false_iff_not, Bool.not_eq_true', Bool.not_eq_false', Bool.not_eq_true, Bool.not_eq_false, List.length_map] at h) <;> conv => whnf)
  · have hlt : i < x.length := by simpa using h
    refine ⟨i, rfl, _, at_map hlt, ?_⟩; (conv => whnf)
    refine ⟨i, rfl, _, at_map hlt, ?_⟩; (conv => whnf)
    have hy := hx x[i] (List.getElem_mem hlt)
    refine ⟨_, _, eqDrive_c x[i] hy, (by repeat' (first | exact lends_nil | exact lend_dead | apply lends_cons | apply lend_agg | apply lend_one | exact all2_nil | apply all2_cons | exact la_lit rfl | exact la_int (by first | rfl | omega) | exact la_row rfl rfl | exact la_loc rfl rfl rfl (by first | rfl | simp [mkL_length]) (by first | rfl | simp) | exact la_nil rfl | apply la_fn rfl | exact lend_same rfl rfl | exact lend_bor rfl rfl)), ?_⟩; (conv => whnf)
    refine ⟨((i + 1 : Nat) : Int), by rw [← wrap64_id] <;> omega, ?_⟩; (conv => whnf)
    exact lg_back (i + 1) (by omega) (by (try dsimp only); omega) (weak_of (by repeat (first | refine all_cons (by first | rfl | exact eq_int rfl (by first | rfl | omega | (simp; done) | (simp; omega)) | exact eq_loc rfl (by first | rfl | omega | (simp; done) | (simp; omega)) | exact eq_bool rfl (by simp_all)) ?_ | exact all_nil)) (by repeat (first | refine all_cons (by first | rfl | exact eq_int rfl (by first | rfl | omega | (simp; done) | (simp; omega)) | exact eq_loc rfl (by first | rfl | omega | (simp; done) | (simp; omega)) | exact eq_bool rfl (by simp_all)) ?_ | exact all_nil)) rfl rfl)
  · exact (by repeat' (first | exact trivial | exact close_int rfl | exact close_str rfl | exact close_bool rfl | exact close_int (by omega) | exact close_row rfl rfl (by first | rfl | simp) (by first | rfl | simp) | exact close_nil (by first | rfl | simp) | exact rfl | apply And.intro | apply closeTs_cons rfl))
theorem szArray_c (x : DArray) (left : Int) (hx : x.it) (h0 : 0 ≤ left) (h1 : left ≤ 1048576) : Fun1 Tryz.prog 4 [.agg x.enc, .one (.lit (.int .i64 left))] (.one (.lit (.int .i64 (szF x.wt left)))) := by
  unfold DArray.it at hx
  obtain ⟨hx0, hx1, hx2⟩ := hx
  have hw : x.wt = wL DDrive.wt x.drives := rfl
  refine fun1_of_vc tb_ok mix (fn := Tryz.f4) Tryz.func4 rfl (by kernel_rfl) (by kernel_rfl) (by simp [Tryz.f4]) (by rfl) ?_
  (conv => whnf)
  have hs2 := szF_or (wL DDrive.wt x.drives) (left)
  refine ⟨_, _, szDriveS_c x.drives (left) hx2.1 hx2.2 (by omega) (by omega), (by repeat' (first | exact lends_nil | exact lend_dead | apply lends_cons | apply lend_agg | apply lend_one | exact all2_nil | apply all2_cons | exact la_lit rfl | exact la_int (by first | rfl | omega) | exact la_row rfl rfl | exact la_loc rfl rfl rfl (by first | rfl | simp [mkL_length]) (by first | rfl | simp) | exact la_nil rfl | apply la_fn rfl | exact lend_same rfl rfl | exact lend_bor rfl rfl)), ?_⟩; (conv => whnf)
  (split <;> rename_i h <;> (try simp only [decide_eq_true_eq, decide_eq_false_iff_not, Bool.not_eq_true', Bool.not_eq_false', Bool.not_eq_true, Bool.not_eq_false, List.length_map] at h) <;> conv => whnf)
  · refine ⟨close_int ?_, trivial⟩; have := szF_or x.wt left; omega
  refine ⟨close_int ?_, trivial⟩; have := szF_or x.wt left; omega
theorem toArray_c (x : DArray) (h : x.wt ≤ 1048576) : Fun1 Tryz.prog 6 [.agg x.enc] (.agg x.enc) := by
  have hw : x.wt = wL DDrive.wt x.drives := rfl
  refine fun1_of_vc tb_ok mix (fn := Tryz.f6) Tryz.func6 rfl (by kernel_rfl) (by kernel_rfl) (by simp [Tryz.f6]) (by exact DArray.enc_nb _) ?_
  (conv => whnf)
  refine ⟨_, _, toDriveS_c x.drives (by omega), (by repeat' (first | exact lends_nil | exact lend_dead | apply lends_cons | apply lend_agg | apply lend_one | exact all2_nil | apply all2_cons | exact la_lit rfl | exact la_int (by first | rfl | omega) | exact la_row rfl rfl | exact la_loc rfl rfl rfl (by first | rfl | simp [mkL_length]) (by first | rfl | simp) | exact la_nil rfl | apply la_fn rfl | exact lend_same rfl rfl | exact lend_bor rfl rfl)), ?_⟩; (conv => whnf)
  exact (by repeat' (first | exact trivial | exact close_int rfl | exact close_str rfl | exact close_bool rfl | exact close_int (by omega) | exact close_row rfl rfl (by first | rfl | simp) (by first | rfl | simp) | exact close_nil (by first | rfl | simp) | exact rfl | apply And.intro | apply closeTs_cons rfl))
theorem eqArray_c (x : DArray) (hx : x.ok) : Fun1 Tryz.prog 9 [.agg x.enc, .agg x.enc] (.one (.lit (.bool true))) := by
  unfold DArray.ok at hx
  obtain ⟨hx0, hx1, hx2⟩ := hx
  refine fun1_of_vc tb_ok mix (fn := Tryz.f9) Tryz.func9 rfl (by kernel_rfl) (by kernel_rfl) (by simp [Tryz.f9]) (by rfl) ?_
  (conv => whnf)
  (first | (split <;> rename_i h <;> first | (exfalso; first | (simp at h; done) | (simp at h; omega) | (simp_all; done) | (simp_all; omega)) | (conv => whnf)) | skip)
  (first | (split <;> rename_i h <;> first | (exfalso; first | (simp at h; done) | (simp at h; omega) | (simp_all; done) | (simp_all; omega)) | (conv => whnf)) | skip)
  refine ⟨_, _, eqDriveS_c x.drives hx2.1 hx2.2, (by repeat' (first | exact lends_nil | exact lend_dead | apply lends_cons | apply lend_agg | apply lend_one | exact all2_nil | apply all2_cons | exact la_lit rfl | exact la_int (by first | rfl | omega) | exact la_row rfl rfl | exact la_loc rfl rfl rfl (by first | rfl | simp [mkL_length]) (by first | rfl | simp) | exact la_nil rfl | apply la_fn rfl | exact lend_same rfl rfl | exact lend_bor rfl rfl)), ?_⟩; (conv => whnf)
  exact (by repeat' (first | exact trivial | exact close_int rfl | exact close_str rfl | exact close_bool rfl | exact close_int (by omega) | exact close_row rfl rfl (by first | rfl | simp) (by first | rfl | simp) | exact close_nil (by first | rfl | simp) | exact rfl | apply And.intro | apply closeTs_cons rfl))
theorem eqOp_c (x : DOp) (hx : x.ok) : Fun1 Tryz.prog 48 [.agg x.enc, .agg x.enc] (.one (.lit (.bool true))) := by
  unfold DOp.ok at hx
  obtain ⟨hx0, hx1, hx2, hx3⟩ := hx
  refine fun1_of_vc tb_ok mix (fn := Tryz.f48) Tryz.func48 rfl (by kernel_rfl) (by kernel_rfl) (by simp [Tryz.f48]) (by rfl) ?_
  (conv => whnf)
  (first | (split <;> rename_i h <;> first | (exfalso; first | (simp at h; done) | (simp at h; omega) | (simp_all; done) | (simp_all; omega)) | (conv => whnf)) | skip)
  (first | (split <;> rename_i h <;> first | (exfalso; first | (simp at h; done) | (simp at h; omega) | (simp_all; done) | (simp_all; omega)) | (conv => whnf)) | skip)
  (first | (split <;> rename_i h <;> first | (exfalso; first | (simp at h; done) | (simp at h; omega) | (simp_all; done) | (simp_all; omega)) | (conv => whnf)) | skip)
  (first | (split <;> rename_i h <;> first | (exfalso; first | (simp at h; done) | (simp at h; omega) | (simp_all; done) | (simp_all; omega)) | (conv => whnf)) | skip)
  exact (by repeat' (first | exact trivial | exact close_int rfl | exact close_str rfl | exact close_bool rfl | exact close_int (by omega) | exact close_row rfl rfl (by first | rfl | simp) (by first | rfl | simp) | exact close_nil (by first | rfl | simp) | exact rfl | apply And.intro | apply closeTs_cons rfl))
theorem eqStep_c (x : DStep) (hx : x.ok) : Fun1 Tryz.prog 24 [.agg x.enc, .agg x.enc] (.one (.lit (.bool true))) := by
  unfold DStep.ok at hx
  obtain ⟨hx0, hx1⟩ := hx
  refine fun1_of_vc tb_ok mix (fn := Tryz.f24) Tryz.func24 rfl (by kernel_rfl) (by kernel_rfl) (by simp [Tryz.f24]) (by rfl) ?_
  (conv => whnf)
  (first | (split <;> rename_i h <;> first | (exfalso; first | (simp at h; done) | (simp at h; omega) | (simp_all; done) | (simp_all; omega)) | (conv => whnf)) | skip)
  refine ⟨_, _, eqOp_c x.op hx1, (by repeat' (first | exact lends_nil | exact lend_dead | apply lends_cons | apply lend_agg | apply lend_one | exact all2_nil | apply all2_cons | exact la_lit rfl | exact la_int (by first | rfl | omega) | exact la_row rfl rfl | exact la_loc rfl rfl rfl (by first | rfl | simp [mkL_length]) (by first | rfl | simp) | exact la_nil rfl | apply la_fn rfl | exact lend_same rfl rfl | exact lend_bor rfl rfl)), ?_⟩; (conv => whnf)
  exact (by repeat' (first | exact trivial | exact close_int rfl | exact close_str rfl | exact close_bool rfl | exact close_int (by omega) | exact close_row rfl rfl (by first | rfl | simp) (by first | rfl | simp) | exact close_nil (by first | rfl | simp) | exact rfl | apply And.intro | apply closeTs_cons rfl))
theorem eqStepS_c (x : List DStep) (hl : x.length ≤ 4294967296) (hx : ∀ y ∈ x, y.ok) : Fun1 Tryz.prog 8 [.one (.row true 5 (x.map DStep.enc)), .one (.row true 5 (x.map DStep.enc))] (.one (.lit (.bool true))) := by
  refine fun1_of_vc tb_ok mix (fn := Tryz.f8) Tryz.func8 rfl (by kernel_rfl) (by kernel_rfl) (by simp [Tryz.f8]) (by rfl) ?_
  (conv => whnf)
  (first | (split <;> rename_i h <;> first | (exfalso; first | (simp at h; done) | (simp at h; omega) | (simp_all; done) | (simp_all; omega)) | (conv => whnf)) | skip)
  refine ⟨LG (fun i : Nat => i ≤ x.length) (fun i => x.length - i) (fun i => AS.of [(0, .one (.row true 5 (x.map DStep.enc))), (1, .one (.row true 5 (x.map DStep.enc))), (5, .one (.lit (.int .i64 (i : Nat))))] []), lg_init 0 (by omega) (weak_of (by repeat (first | refine all_cons (by first | rfl | exact eq_int rfl (by first | rfl | omega | (simp; done) | (simp; omega)) | exact eq_loc rfl (by first | rfl | omega | (simp; done) | (simp; omega)) | exact eq_bool rfl (by simp_all)) ?_ | exact all_nil)) (by repeat (first | refine all_cons (by first | rfl | exact eq_int rfl (by first | rfl | omega | (simp; done) | (simp; omega)) | exact eq_loc rfl (by first | rfl | omega | (simp; done) | (simp; omega)) | exact eq_bool rfl (by simp_all)) ?_ | exact all_nil)) rfl rfl), ?_⟩
  rintro σ k ⟨i, hi, rfl, rfl⟩
  refine ⟨_, Weak.refl _, ?_⟩
  (conv => whnf)
  (split <;> rename_i h <;> (try simp only [decide_eq_true_eq, decide_eq_false_iff_not, Bool.not_eq_true', Bool.not_eq_false', Bool.not_eq_true, Bool.not_eq_false, List.length_map] at h) <;> conv => whnf)
  · have hlt : i < x.length := by simpa using h
    refine ⟨i, rfl, _, at_map hlt, ?_⟩; (conv => whnf)
    refine ⟨i, rfl, _, at_map hlt, ?_⟩; (conv => whnf)
    have hy := hx x[i] (List.getElem_mem hlt)
    refine ⟨_, _, eqStep_c x[i] hy, (by repeat' (first | exact lends_nil | exact lend_dead | apply lends_cons | apply lend_agg | apply lend_one | exact all2_nil | apply all2_cons | exact la_lit rfl | exact la_int (by first | rfl | omega) | exact la_row rfl rfl | exact la_loc rfl rfl rfl (by first | rfl | simp [mkL_length]) (by first | rfl | simp) | exact la_nil rfl | apply la_fn rfl | exact lend_same rfl rfl | exact lend_bor rfl rfl)), ?_⟩; (conv => whnf)
    refine ⟨((i + 1 : Nat) : Int), by rw [← wrap64_id] <;> omega, ?_⟩; (conv => whnf)
    exact lg_back (i + 1) (by omega) (by (try dsimp only); omega) (weak_of (by repeat (first | refine all_cons (by first | rfl | exact eq_int rfl (by first | rfl | omega | (simp; done) | (simp; omega)) | exact eq_loc rfl (by first | rfl | omega | (simp; done) | (simp; omega)) | exact eq_bool rfl (by simp_all)) ?_ | exact all_nil)) (by repeat (first | refine all_cons (by first | rfl | exact eq_int rfl (by first | rfl | omega | (simp; done) | (simp; omega)) | exact eq_loc rfl (by first | rfl | omega | (simp; done) | (simp; omega)) | exact eq_bool rfl (by simp_all)) ?_ | exact all_nil)) rfl rfl)
  · exact (by repeat' (first | exact trivial | exact close_int rfl | exact close_str rfl | exact close_bool rfl | exact close_int (by omega) | exact close_row rfl rfl (by first | rfl | simp) (by first | rfl | simp) | exact close_nil (by first | rfl | simp) | exact rfl | apply And.intro | apply closeTs_cons rfl))
end Go.Proofs.YtdbnppipgblajaaGreatDoor
namespace Go.Proofs.YtdbnppipgblajaaGreatDoor
open Go.RowKit
set_option maxRecDepth 100000 in
theorem markText_c (k : Nat) (h1 : 1 ≤ k) (h2 : k ≤ 4611686018427387904) : Fun1 Tryz.prog 27 [.one (.lit (.int .i64 k))] (.one (.lit (.string (markStr k)))) := by
  refine fun1_of_vc tb_ok mix (fn := Tryz.f27) Tryz.func27 rfl (by kernel_rfl) (by kernel_rfl) (by simp [Tryz.f27]) (by simp [T.nb, AV.nb]) ?_
  (conv => whnf)
  (split <;> rename_i h <;> (try simp only [decide_eq_true_eq, decide_eq_false_iff_not, Bool.not_eq_true', Bool.not_eq_false', Bool.not_eq_true, Bool.not_eq_false, List.length_map] at h) <;> conv => whnf)
  · omega
  refine ⟨fun σ m => ∃ out : ByteArray, m ≤ k ∧ m < 2 ^ (63 - out.size) ∧ out.size ≤ 63 ∧ markLoop m out = markLoop k ⟨#[]⟩ ∧ σ = AS.of [(0, .one (.lit (.int .i64 (m : Nat)))), (3, .one (.lit (.string out)))] [], ⟨_, k, weak_of (by repeat (first | refine all_cons (by first | rfl | exact eq_int rfl (by first | rfl | omega | (simp; done) | (simp; omega)) | exact eq_loc rfl (by first | rfl | omega | (simp; done) | (simp; omega)) | exact eq_bool rfl (by simp_all)) ?_ | exact all_nil)) (by repeat (first | refine all_cons (by first | rfl | exact eq_int rfl (by first | rfl | omega | (simp; done) | (simp; omega)) | exact eq_loc rfl (by first | rfl | omega | (simp; done) | (simp; omega)) | exact eq_bool rfl (by simp_all)) ?_ | exact all_nil)) rfl rfl, _, Nat.le_refl _, ?_, ?_, rfl, rfl⟩, ?_⟩
  · simp [ByteArray.size]; omega
  · simp [ByteArray.size]
  rintro σ m ⟨out, hmk, hm, ho, hout, rfl⟩
  refine ⟨_, Weak.refl _, ?_⟩
  (conv => whnf)
  (split <;> rename_i h <;> (try simp only [decide_eq_true_eq, decide_eq_false_iff_not, Bool.not_eq_true', Bool.not_eq_false', Bool.not_eq_true, Bool.not_eq_false, List.length_map] at h) <;> conv => whnf)
  · have hs : ∃ q, 63 - out.size = q + 1 := ⟨62 - out.size, by
      rcases Nat.eq_or_lt_of_le ho with e | e
      · rw [e] at hm; simp at hm; omega
      · omega⟩
    obtain ⟨q, hq⟩ := hs
    rw [hq, Nat.pow_succ] at hm
    refine ⟨by decide, ((m % 10 : Nat) : Int), by rw [Int.ofNat_tmod]; rfl, ?_⟩
    (conv => whnf)
    refine ⟨((48 + m % 10 : Nat) : Int), by rw [← wrap64_id] <;> omega, ?_⟩
    (conv => whnf)
    refine ⟨((UInt8.ofNat (48 + m % 10)).toNat : Int), by simp [IntKind.wrap, IntKind.signed, IntKind.bits], ?_⟩
    (conv => whnf)
    refine ⟨true, _, [UInt8.ofNat (48 + m % 10)], ⟨rfl, Nat.le_refl 1, rfl, rfl⟩, rfl, ?_⟩
    (conv => whnf)
    refine ⟨?_, ?_⟩
    · show 1 + out.size ≤ _
      omega
    (conv => whnf)
    refine ⟨by decide, ((m / 10 : Nat) : Int), by rw [show ((m : Int).tdiv 10) = ((m / 10 : Nat) : Int) from (Int.ofNat_tdiv m 10).symm, ← wrap64_id] <;> omega, ?_⟩
    (conv => whnf)
    refine ⟨_, m / 10, weak_of (by repeat (first | refine all_cons (by first | rfl | exact eq_int rfl (by first | rfl | omega | (simp; done) | (simp; omega)) | exact eq_loc rfl (by first | rfl | omega | (simp; done) | (simp; omega)) | exact eq_bool rfl (by simp_all)) ?_ | exact all_nil)) (by repeat (first | refine all_cons (by first | rfl | exact eq_int rfl (by first | rfl | omega | (simp; done) | (simp; omega)) | exact eq_loc rfl (by first | rfl | omega | (simp; done) | (simp; omega)) | exact eq_bool rfl (by simp_all)) ?_ | exact all_nil)) rfl rfl, ?_, ⟨#[UInt8.ofNat (48 + m % 10)]⟩ ++ out, ?_, ?_, ?_, ?_, rfl⟩
    · omega
    · omega
    · rw [ByteArray.size_append]
      show m / 10 < 2 ^ (63 - (1 + out.size))
      rw [show 63 - (1 + out.size) = q by omega]; omega
    · rw [ByteArray.size_append]
      show 1 + out.size ≤ 63
      omega
    · rw [← hout]; conv => rhs; rw [markLoop, dif_neg (by omega)]
  · have : m = 0 := by omega
    subst this
    rw [markLoop, dif_pos rfl] at hout
    refine ⟨?_, close_str (by rw [hout]; rfl), trivial⟩
    show 1 + out.size ≤ _
    omega
end Go.Proofs.YtdbnppipgblajaaGreatDoor
namespace Go.Proofs.YtdbnppipgblajaaGreatDoor
open Go.RowKit
set_option linter.unusedSimpArgs false
set_option linter.unusedVariables false
set_option maxRecDepth 100000
theorem markStoredS_c (l : List DStored) (k : Nat) (h1 : 1 ≤ k) (h2 : k + cnL DStored.cnE l ≤ 4611686018427387904) (hl : l.length ≤ 4611686018427387904) :
    MutF Tryz.prog 50 [.one (.loc 0 0 l.length), .one (.lit (.int .i64 k))] [(3, l.map DStored.enc)] [(3, (mkL DStored.mkE DStored.cnE l k).map DStored.enc)] (.int .i64 ((k + cnL DStored.cnE l : Nat) : Int)) := by
  refine mutf_of_vc tb_ok mix (fn := Tryz.f50) Tryz.func50 rfl (by kernel_rfl) (by kernel_rfl) (by simp [Tryz.f50]) (by simp) (by exact nbRows_cons (nbRow_map (fun y => DStored.enc_nb y) _) nbRows_nil) (by exact nbRows_cons (nbRow_map (fun y => DStored.enc_nb y) _) nbRows_nil) rfl fun at_ => ?_
  (conv => whnf)
  refine ⟨LG (fun i : Nat => i ≤ l.length) (fun i => l.length - i) (fun i => AS.of [(0, .one (.loc 0 0 l.length)), (1, .one (.lit (.int .i64 ((k + cnL DStored.cnE (l.take i) : Nat) : Int)))), (5, .one (.lit (.int .i64 (i : Nat))))] [(0, .row true 3 ((mkL DStored.mkE DStored.cnE (l.take i) k).map DStored.enc ++ (l.drop i).map DStored.enc)), (8, .pin 0 (at_ 0))]), lg_init 0 (by omega) (weak_of (by repeat (first | refine all_cons (by first | rfl | exact eq_int rfl (by first | rfl | omega | (simp; done) | (simp; omega)) | exact eq_loc rfl (by first | rfl | omega | (simp; done) | (simp; omega)) | exact eq_bool rfl (by simp_all)) ?_ | exact all_nil)) (by repeat (first | refine all_cons (by first | rfl | exact eq_int rfl (by first | rfl | omega | (simp; done) | (simp; omega)) | exact eq_loc rfl (by first | rfl | omega | (simp; done) | (simp; omega)) | exact eq_bool rfl (by simp_all)) ?_ | exact all_nil)) rfl rfl), ?_⟩
  rintro σ m ⟨i, hi, rfl, rfl⟩
  by_cases hlt : i < l.length
  · have hd : l.drop i = l[i] :: l.drop (i + 1) := List.drop_eq_getElem_cons hlt
    have hml : ((mkL DStored.mkE DStored.cnE (l.take i) k).map DStored.enc).length = 0 + i := by simp [mkL_length]; omega
    have hcs := cnL_take_succ (cn := DStored.cnE) hlt
    have hcl := cnL_take_le (cn := DStored.cnE) (l := l) (i := i + 1)
    have hts : (mkL DStored.mkE DStored.cnE (l.take (i + 1)) k).map DStored.enc = (mkL DStored.mkE DStored.cnE (l.take i) k).map DStored.enc ++ [DStored.enc (DStored.mkE l[i] (k + cnL DStored.cnE (l.take i)))] := by rw [mkL_take_succ hlt, List.map_append]; rfl
    generalize hq : k + cnL DStored.cnE (l.take i) = q at hts
    have hcn : DStored.cnE l[i] = 1 + 1 + 1 := rfl
    refine ⟨_, weak_of (tl := [(0, .one (.loc 0 0 l.length)), (1, .one (.lit (.int .i64 (q : Nat)))), (5, .one (.lit (.int .i64 (i : Nat))))]) (ml := [(0, .row true 3 ((mkL DStored.mkE DStored.cnE (l.take i) k).map DStored.enc ++ [.lit (.string l[i].name), .lit (.string l[i].text), .lit (.int .i64 l[i].synced)] :: (l.drop (i + 1)).map DStored.enc)), (8, .pin 0 (at_ 0))]) (by exact all_cons rfl (all_cons (eq_int rfl (by omega)) (all_cons rfl all_nil))) (by exact all_cons (eq_row rfl (by rw [hd]; rfl)) (all_cons rfl all_nil)) rfl rfl, ?_⟩
    (conv => whnf)
    split <;> rename_i hb
    case h_2 => simp at hb; omega
    clear hb; (conv => whnf)
    refine ⟨_, _, markText_c (q) (by omega) (by omega), (by repeat' (first | exact lends_nil | exact lend_dead | apply lends_cons | apply lend_agg | apply lend_one | exact all2_nil | apply all2_cons | exact la_lit rfl | exact la_int (by first | rfl | omega) | exact la_row rfl rfl | exact la_loc rfl rfl rfl (by first | rfl | simp [mkL_length]) (by first | rfl | simp) | exact la_nil rfl | apply la_fn rfl | exact lend_same rfl rfl | exact lend_bor rfl rfl)), ?_⟩; (conv => whnf)
    refine ⟨i, rfl, hlt, ?_⟩; (conv => whnf)
    refine ⟨_, at_mid hml, ?_⟩; (conv => whnf)
    refine ⟨_, set_mid hml, ?_⟩; (conv => whnf)
    refine ⟨((q + 1 : Nat) : Int), by rw [← wrap64_id] <;> omega, ?_⟩; (conv => whnf)
    refine ⟨_, _, markText_c (q + 1) (by omega) (by omega), (by repeat' (first | exact lends_nil | exact lend_dead | apply lends_cons | apply lend_agg | apply lend_one | exact all2_nil | apply all2_cons | exact la_lit rfl | exact la_int (by first | rfl | omega) | exact la_row rfl rfl | exact la_loc rfl rfl rfl (by first | rfl | simp [mkL_length]) (by first | rfl | simp) | exact la_nil rfl | apply la_fn rfl | exact lend_same rfl rfl | exact lend_bor rfl rfl)), ?_⟩; (conv => whnf)
    refine ⟨i, rfl, hlt, ?_⟩; (conv => whnf)
    refine ⟨_, at_mid hml, ?_⟩; (conv => whnf)
    refine ⟨_, set_mid hml, ?_⟩; (conv => whnf)
    refine ⟨((q + 1 + 1 : Nat) : Int), by rw [← wrap64_id] <;> omega, ?_⟩; (conv => whnf)
    refine ⟨i, rfl, hlt, ?_⟩; (conv => whnf)
    refine ⟨_, at_mid hml, ?_⟩; (conv => whnf)
    refine ⟨_, set_mid hml, ?_⟩; (conv => whnf)
    refine ⟨((q + 1 + 1 + 1 : Nat) : Int), by rw [← wrap64_id] <;> omega, ?_⟩; (conv => whnf)
    refine ⟨((i + 1 : Nat) : Int), by rw [← wrap64_id] <;> omega, ?_⟩; (conv => whnf)
    exact lg_back (i + 1) (by omega) (by (try dsimp only); omega) (weak_of (by exact all_cons rfl (all_cons (eq_int rfl (by omega)) (all_cons rfl all_nil))) (by exact all_cons (eq_row rfl (by rw [hts]; exact (List.append_assoc _ [_] _).symm)) (all_cons rfl all_nil)) rfl rfl)
  · have : i = l.length := by omega
    subst this
    refine ⟨_, Weak.refl _, ?_⟩
    (conv => whnf)
    split <;> rename_i hb
    case h_1 => simp at hb
    clear hb; (conv => whnf)
    refine ⟨by rw [List.take_length], ⟨rfl, ?_⟩, rfl, trivial⟩
    simp
theorem markDriveS_c (l : List DDrive) (k : Nat) (h1 : 1 ≤ k) (h2 : k + cnL DDrive.cnE l ≤ 4611686018427387904) (hl : l.length ≤ 4611686018427387904) (hx : ∀ y ∈ l, (y.files.length ≤ 4611686018427387904)) :
    MutF Tryz.prog 26 [.one (.loc 0 0 l.length), .one (.lit (.int .i64 k))] [(2, l.map DDrive.enc)] [(2, (mkL DDrive.mkE DDrive.cnE l k).map DDrive.enc)] (.int .i64 ((k + cnL DDrive.cnE l : Nat) : Int)) := by
  refine mutf_of_vc tb_ok mix (fn := Tryz.f26) Tryz.func26 rfl (by kernel_rfl) (by kernel_rfl) (by simp [Tryz.f26]) (by simp) (by exact nbRows_cons (nbRow_map (fun y => DDrive.enc_nb y) _) nbRows_nil) (by exact nbRows_cons (nbRow_map (fun y => DDrive.enc_nb y) _) nbRows_nil) rfl fun at_ => ?_
  (conv => whnf)
  refine ⟨LG (fun i : Nat => i ≤ l.length) (fun i => l.length - i) (fun i => AS.of [(0, .one (.loc 0 0 l.length)), (1, .one (.lit (.int .i64 ((k + cnL DDrive.cnE (l.take i) : Nat) : Int)))), (5, .one (.lit (.int .i64 (i : Nat))))] [(0, .row true 2 ((mkL DDrive.mkE DDrive.cnE (l.take i) k).map DDrive.enc ++ (l.drop i).map DDrive.enc)), (8, .pin 0 (at_ 0))]), lg_init 0 (by omega) (weak_of (by repeat (first | refine all_cons (by first | rfl | exact eq_int rfl (by first | rfl | omega | (simp; done) | (simp; omega)) | exact eq_loc rfl (by first | rfl | omega | (simp; done) | (simp; omega)) | exact eq_bool rfl (by simp_all)) ?_ | exact all_nil)) (by repeat (first | refine all_cons (by first | rfl | exact eq_int rfl (by first | rfl | omega | (simp; done) | (simp; omega)) | exact eq_loc rfl (by first | rfl | omega | (simp; done) | (simp; omega)) | exact eq_bool rfl (by simp_all)) ?_ | exact all_nil)) rfl rfl), ?_⟩
  rintro σ m ⟨i, hi, rfl, rfl⟩
  by_cases hlt : i < l.length
  · have hd : l.drop i = l[i] :: l.drop (i + 1) := List.drop_eq_getElem_cons hlt
    have hml : ((mkL DDrive.mkE DDrive.cnE (l.take i) k).map DDrive.enc).length = 0 + i := by simp [mkL_length]; omega
    have hcs := cnL_take_succ (cn := DDrive.cnE) hlt
    have hcl := cnL_take_le (cn := DDrive.cnE) (l := l) (i := i + 1)
    have hts : (mkL DDrive.mkE DDrive.cnE (l.take (i + 1)) k).map DDrive.enc = (mkL DDrive.mkE DDrive.cnE (l.take i) k).map DDrive.enc ++ [DDrive.enc (DDrive.mkE l[i] (k + cnL DDrive.cnE (l.take i)))] := by rw [mkL_take_succ hlt, List.map_append]; rfl
    generalize hq : k + cnL DDrive.cnE (l.take i) = q at hts
    have hcn : DDrive.cnE l[i] = (cnL DStored.cnE) l[i].files + 1 := rfl
    have hxi := hx l[i] (List.getElem_mem hlt)
    refine ⟨_, Weak.trans (weak_of (tl := [(0, .one (.loc 0 0 l.length)), (1, .one (.lit (.int .i64 (q : Nat)))), (5, .one (.lit (.int .i64 (i : Nat))))]) (ml := [(0, .row true 2 ((mkL DDrive.mkE DDrive.cnE (l.take i) k).map DDrive.enc ++ [.row true 3 (l[i].files.map DStored.enc), .lit (.int .i64 l[i].room)] :: (l.drop (i + 1)).map DDrive.enc)), (8, .pin 0 (at_ 0))]) (by exact all_cons rfl (all_cons (eq_int rfl (by omega)) (all_cons rfl all_nil))) (by exact all_cons (eq_row rfl (by rw [hd]; rfl)) (all_cons rfl all_nil)) rfl rfl) (weak_focus 0 40 ((mkL DDrive.mkE DDrive.cnE (l.take i) k).map DDrive.enc) ((l.drop (i + 1)).map DDrive.enc) [] [.lit (.int .i64 l[i].room)] (es2 := l[i].files.map DStored.enc) rfl (sfm_cons (sf_mid (nbRow_map (fun y => DDrive.enc_nb y) _) (nbRow_map (fun y => DDrive.enc_nb y) _) (allb_cons (sf_nb (nb_map (n := 4) (fun y => DStored.enc_nbn 4 y) _)) (allb_cons rfl allb_nil))) (sfm_cons rfl sfm_nil)) (nbRow_map (fun y => DStored.enc_nb y) _) rfl rfl (weak_of (tl := [(0, .one (.loc 0 0 l.length)), (1, .one (.lit (.int .i64 ((q : Nat))))), (5, .one (.lit (.int .i64 (i : Nat))))]) (ml := [(0, .row false 2 ((mkL DDrive.mkE DDrive.cnE (l.take i) k).map DDrive.enc ++ [.loc 40 0 (l[i].files.map DStored.enc).length, .lit (.int .i64 l[i].room)] :: (l.drop (i + 1)).map DDrive.enc)), (40, .row true 3 (l[i].files.map DStored.enc)), (8, .pin 0 (at_ 0))]) (by repeat (first | refine all_cons (by first | rfl | exact eq_int rfl (by first | rfl | omega | (simp; done) | (simp; omega)) | exact eq_loc rfl (by first | rfl | omega | (simp; done) | (simp; omega)) | exact eq_bool rfl (by simp_all)) ?_ | exact all_nil)) (by repeat (first | refine all_cons (by first | rfl | exact eq_int rfl (by first | rfl | omega | (simp; done) | (simp; omega)) | exact eq_loc rfl (by first | rfl | omega | (simp; done) | (simp; omega)) | exact eq_bool rfl (by simp_all)) ?_ | exact all_nil)) rfl (onm_cons (only_mid (cellRow_map (fun y => rfl) _) (cellRow_map (fun y => rfl) _) rfl) (onm_cons rfl (onm_cons rfl onm_nil))))), ?_⟩
    (conv => whnf)
    split <;> rename_i hb
    case h_2 => simp at hb; omega
    clear hb; (conv => whnf)
    refine ⟨i, rfl, hlt, ?_⟩; (conv => whnf)
    refine ⟨_, at_mid hml, ?_⟩; (conv => whnf)
    have hm0 := markStoredS_c l[i].files (q) (by omega) (by omega) (by first | exact hxi | exact hxi.1 | exact hxi.2.1 | exact hxi.2 | omega)
    refine ⟨[(0, .one (.loc 0 0 l.length)), (5, .one (.lit (.int .i64 (i : Nat)))), (16, .one (.loc 40 0 (l[i].files.map DStored.enc).length)), (17, .one (.lit (.int .i64 ((q : Nat) : Int))))], [(0, .row false 2 ((mkL DDrive.mkE DDrive.cnE (l.take i) k).map DDrive.enc ++ [.loc 40 0 (l[i].files.map DStored.enc).length, .lit (.int .i64 l[i].room)] :: (l.drop (i + 1)).map DDrive.enc)), (40, .row true 3 (l[i].files.map DStored.enc)), (8, .pin 0 (at_ 0))], weak_of (by repeat (first | refine all_cons (by first | rfl | exact eq_int rfl (by first | rfl | omega | (simp; done) | (simp; omega)) | exact eq_loc rfl (by first | rfl | omega | (simp; done) | (simp; omega)) | exact eq_bool rfl (by simp_all)) ?_ | exact all_nil)) (by repeat (first | refine all_cons (by first | rfl | exact eq_int rfl (by first | rfl | omega | (simp; done) | (simp; omega)) | exact eq_loc rfl (by first | rfl | omega | (simp; done) | (simp; omega)) | exact eq_bool rfl (by simp_all)) ?_ | exact all_nil)) rfl (onm_cons (only_mid (cellRow_map (fun y => rfl) _) (cellRow_map (fun y => rfl) _) rfl) (onm_cons rfl (onm_cons rfl onm_nil))), _, _, _, _, [40], hm0, rens_cons (ren_one (ren_loc rfl (by simp))) (rens_cons (ren_one (ren_int (by first | rfl | omega))) rens_nil), hasRows_cons rfl hasRows_nil, (by decide), rfl, (sfm_cons (sf_mid (nbRow_map (fun y => DDrive.enc_nb y) _) (nbRow_map (fun y => DDrive.enc_nb y) _) (allb_cons rfl (allb_cons rfl allb_nil))) (sfm_cons (sf_row (nbRow_map (fun y => DStored.enc_nb y) _)) (sfm_cons rfl sfm_nil))), rfl, ?_⟩; (conv => whnf)
    refine ⟨i, rfl, hlt, ?_⟩; (conv => whnf)
    refine ⟨_, at_mid hml, ?_⟩; (conv => whnf)
    refine ⟨_, set_mid hml, ?_⟩; (conv => whnf)
    refine ⟨((q + (cnL DStored.cnE) l[i].files + 1 : Nat) : Int), by rw [← wrap64_id] <;> omega, ?_⟩; (conv => whnf)
    refine ⟨((i + 1 : Nat) : Int), by rw [← wrap64_id] <;> omega, ?_⟩; (conv => whnf)
    exact lg_back (i + 1) (by omega) (by (try dsimp only); omega) (weak_absorb 0 40 ((mkL DDrive.mkE DDrive.cnE (l.take i) k).map DDrive.enc) ((l.drop (i + 1)).map DDrive.enc) [] [.lit (.int .i64 ((q + (cnL DStored.cnE) l[i].files : Nat) : Int))] (es2 := ((mkL DStored.mkE DStored.cnE) l[i].files (q)).map DStored.enc) (by decide) (by first | rfl | (simp only [mkL_length, List.length_map]; rfl)) rfl (cellRow_map (fun y => rfl) _) (cellRow_map (fun y => rfl) _) rfl rfl (weak_of (by exact all_cons rfl (all_cons (eq_int rfl (by omega)) (all_cons rfl all_nil))) (by exact all_cons (eq_row rfl (by rw [hts]; exact (List.append_assoc _ [_] _).symm)) (all_cons rfl all_nil)) rfl rfl))
  · have : i = l.length := by omega
    subst this
    refine ⟨_, Weak.refl _, ?_⟩
    (conv => whnf)
    split <;> rename_i hb
    case h_1 => simp at hb
    clear hb; (conv => whnf)
    refine ⟨by rw [List.take_length], ⟨rfl, ?_⟩, rfl, trivial⟩
    simp
theorem markStepS_c (l : List DStep) (k : Nat) (h1 : 1 ≤ k) (h2 : k + cnL DStep.cnE l ≤ 4611686018427387904) (hl : l.length ≤ 4611686018427387904) :
    MutF Tryz.prog 11 [.one (.loc 0 0 l.length), .one (.lit (.int .i64 k))] [(5, l.map DStep.enc)] [(5, (mkL DStep.mkE DStep.cnE l k).map DStep.enc)] (.int .i64 ((k + cnL DStep.cnE l : Nat) : Int)) := by
  refine mutf_of_vc tb_ok mix (fn := Tryz.f11) Tryz.func11 rfl (by kernel_rfl) (by kernel_rfl) (by simp [Tryz.f11]) (by simp) (by exact nbRows_cons (nbRow_map (fun y => DStep.enc_nb y) _) nbRows_nil) (by exact nbRows_cons (nbRow_map (fun y => DStep.enc_nb y) _) nbRows_nil) rfl fun at_ => ?_
  (conv => whnf)
  refine ⟨LG (fun i : Nat => i ≤ l.length) (fun i => l.length - i) (fun i => AS.of [(0, .one (.loc 0 0 l.length)), (1, .one (.lit (.int .i64 ((k + cnL DStep.cnE (l.take i) : Nat) : Int)))), (5, .one (.lit (.int .i64 (i : Nat))))] [(0, .row true 5 ((mkL DStep.mkE DStep.cnE (l.take i) k).map DStep.enc ++ (l.drop i).map DStep.enc)), (8, .pin 0 (at_ 0))]), lg_init 0 (by omega) (weak_of (by repeat (first | refine all_cons (by first | rfl | exact eq_int rfl (by first | rfl | omega | (simp; done) | (simp; omega)) | exact eq_loc rfl (by first | rfl | omega | (simp; done) | (simp; omega)) | exact eq_bool rfl (by simp_all)) ?_ | exact all_nil)) (by repeat (first | refine all_cons (by first | rfl | exact eq_int rfl (by first | rfl | omega | (simp; done) | (simp; omega)) | exact eq_loc rfl (by first | rfl | omega | (simp; done) | (simp; omega)) | exact eq_bool rfl (by simp_all)) ?_ | exact all_nil)) rfl rfl), ?_⟩
  rintro σ m ⟨i, hi, rfl, rfl⟩
  by_cases hlt : i < l.length
  · have hd : l.drop i = l[i] :: l.drop (i + 1) := List.drop_eq_getElem_cons hlt
    have hml : ((mkL DStep.mkE DStep.cnE (l.take i) k).map DStep.enc).length = 0 + i := by simp [mkL_length]; omega
    have hcs := cnL_take_succ (cn := DStep.cnE) hlt
    have hcl := cnL_take_le (cn := DStep.cnE) (l := l) (i := i + 1)
    have hts : (mkL DStep.mkE DStep.cnE (l.take (i + 1)) k).map DStep.enc = (mkL DStep.mkE DStep.cnE (l.take i) k).map DStep.enc ++ [DStep.enc (DStep.mkE l[i] (k + cnL DStep.cnE (l.take i)))] := by rw [mkL_take_succ hlt, List.map_append]; rfl
    generalize hq : k + cnL DStep.cnE (l.take i) = q at hts
    have hcn : DStep.cnE l[i] = 1 + 1 + 1 + 1 + 1 := rfl
    refine ⟨_, weak_of (tl := [(0, .one (.loc 0 0 l.length)), (1, .one (.lit (.int .i64 (q : Nat)))), (5, .one (.lit (.int .i64 (i : Nat))))]) (ml := [(0, .row true 5 ((mkL DStep.mkE DStep.cnE (l.take i) k).map DStep.enc ++ [.lit (.int .i64 l[i].drive), .lit (.int .i64 l[i].op.kind), .lit (.string l[i].op.name), .lit (.string l[i].op.to), .lit (.string l[i].op.text)] :: (l.drop (i + 1)).map DStep.enc)), (8, .pin 0 (at_ 0))]) (by exact all_cons rfl (all_cons (eq_int rfl (by omega)) (all_cons rfl all_nil))) (by exact all_cons (eq_row rfl (by rw [hd]; rfl)) (all_cons rfl all_nil)) rfl rfl, ?_⟩
    (conv => whnf)
    split <;> rename_i hb
    case h_2 => simp at hb; omega
    clear hb; (conv => whnf)
    refine ⟨i, rfl, hlt, ?_⟩; (conv => whnf)
    refine ⟨_, at_mid hml, ?_⟩; (conv => whnf)
    refine ⟨_, set_mid hml, ?_⟩; (conv => whnf)
    refine ⟨((q + 1 : Nat) : Int), by rw [← wrap64_id] <;> omega, ?_⟩; (conv => whnf)
    refine ⟨i, rfl, hlt, ?_⟩; (conv => whnf)
    refine ⟨_, at_mid hml, ?_⟩; (conv => whnf)
    refine ⟨_, set_mid hml, ?_⟩; (conv => whnf)
    refine ⟨((q + 1 + 1 : Nat) : Int), by rw [← wrap64_id] <;> omega, ?_⟩; (conv => whnf)
    refine ⟨_, _, markText_c (q + 1 + 1) (by omega) (by omega), (by repeat' (first | exact lends_nil | exact lend_dead | apply lends_cons | apply lend_agg | apply lend_one | exact all2_nil | apply all2_cons | exact la_lit rfl | exact la_int (by first | rfl | omega) | exact la_row rfl rfl | exact la_loc rfl rfl rfl (by first | rfl | simp [mkL_length]) (by first | rfl | simp) | exact la_nil rfl | apply la_fn rfl | exact lend_same rfl rfl | exact lend_bor rfl rfl)), ?_⟩; (conv => whnf)
    refine ⟨i, rfl, hlt, ?_⟩; (conv => whnf)
    refine ⟨_, at_mid hml, ?_⟩; (conv => whnf)
    refine ⟨_, set_mid hml, ?_⟩; (conv => whnf)
    refine ⟨((q + 1 + 1 + 1 : Nat) : Int), by rw [← wrap64_id] <;> omega, ?_⟩; (conv => whnf)
    refine ⟨_, _, markText_c (q + 1 + 1 + 1) (by omega) (by omega), (by repeat' (first | exact lends_nil | exact lend_dead | apply lends_cons | apply lend_agg | apply lend_one | exact all2_nil | apply all2_cons | exact la_lit rfl | exact la_int (by first | rfl | omega) | exact la_row rfl rfl | exact la_loc rfl rfl rfl (by first | rfl | simp [mkL_length]) (by first | rfl | simp) | exact la_nil rfl | apply la_fn rfl | exact lend_same rfl rfl | exact lend_bor rfl rfl)), ?_⟩; (conv => whnf)
    refine ⟨i, rfl, hlt, ?_⟩; (conv => whnf)
    refine ⟨_, at_mid hml, ?_⟩; (conv => whnf)
    refine ⟨_, set_mid hml, ?_⟩; (conv => whnf)
    refine ⟨((q + 1 + 1 + 1 + 1 : Nat) : Int), by rw [← wrap64_id] <;> omega, ?_⟩; (conv => whnf)
    refine ⟨_, _, markText_c (q + 1 + 1 + 1 + 1) (by omega) (by omega), (by repeat' (first | exact lends_nil | exact lend_dead | apply lends_cons | apply lend_agg | apply lend_one | exact all2_nil | apply all2_cons | exact la_lit rfl | exact la_int (by first | rfl | omega) | exact la_row rfl rfl | exact la_loc rfl rfl rfl (by first | rfl | simp [mkL_length]) (by first | rfl | simp) | exact la_nil rfl | apply la_fn rfl | exact lend_same rfl rfl | exact lend_bor rfl rfl)), ?_⟩; (conv => whnf)
    refine ⟨i, rfl, hlt, ?_⟩; (conv => whnf)
    refine ⟨_, at_mid hml, ?_⟩; (conv => whnf)
    refine ⟨_, set_mid hml, ?_⟩; (conv => whnf)
    refine ⟨((q + 1 + 1 + 1 + 1 + 1 : Nat) : Int), by rw [← wrap64_id] <;> omega, ?_⟩; (conv => whnf)
    refine ⟨((i + 1 : Nat) : Int), by rw [← wrap64_id] <;> omega, ?_⟩; (conv => whnf)
    exact lg_back (i + 1) (by omega) (by (try dsimp only); omega) (weak_of (by exact all_cons rfl (all_cons (eq_int rfl (by omega)) (all_cons rfl all_nil))) (by exact all_cons (eq_row rfl (by rw [hts]; exact (List.append_assoc _ [_] _).symm)) (all_cons rfl all_nil)) rfl rfl)
  · have : i = l.length := by omega
    subst this
    refine ⟨_, Weak.refl _, ?_⟩
    (conv => whnf)
    split <;> rename_i hb
    case h_1 => simp at hb
    clear hb; (conv => whnf)
    refine ⟨by rw [List.take_length], ⟨rfl, ?_⟩, rfl, trivial⟩
    simp
theorem markArray_c (x : DArray) (k : Nat) (h1 : 1 ≤ k) (h2 : k + x.cnV ≤ 4611686018427387904) (hx : (x.drives.length ≤ 4611686018427387904 ∧ ∀ y ∈ x.drives, (y.files.length ≤ 4611686018427387904))) : MutF Tryz.prog 10 [.agg [.lit (.int .i64 x.k), .lit (.int .i64 x.m), .loc 0 0 (x.drives.map DDrive.enc).length], .one (.lit (.int .i64 k))] [(2, x.drives.map DDrive.enc)] [(2, ((mkL DDrive.mkE DDrive.cnE) x.drives (k)).map DDrive.enc)] (.int .i64 ((k + x.cnV : Nat) : Int)) := by
  refine mutf_of_vc tb_ok mix (fn := Tryz.f10) Tryz.func10 rfl (by kernel_rfl) (by kernel_rfl) (by simp [Tryz.f10]) (by simp) (by exact (nbRows_cons (nbRow_map (fun y => DDrive.enc_nb y) _) nbRows_nil)) (by exact (nbRows_cons (nbRow_map (fun y => DDrive.enc_nb y) _) nbRows_nil)) rfl fun at_ => ?_
  have hcn : x.cnV = (cnL DDrive.cnE) x.drives := rfl
  (conv => whnf)
  refine ⟨[(2, .one (.ptr 32 0)), (6, .one (.loc 0 0 (x.drives.map DDrive.enc).length)), (7, .one (.lit (.int .i64 ((k : Nat) : Int))))], [(0, .row true 2 (x.drives.map DDrive.enc)), (8, .pin 0 (at_ 0)), (32, .var [.lit (.int .i64 x.k), .lit (.int .i64 x.m), .loc 0 0 (x.drives.map DDrive.enc).length])], weak_of (by repeat (first | refine all_cons (by first | rfl | exact eq_int rfl (by first | rfl | omega | (simp; done) | (simp; omega)) | exact eq_loc rfl (by first | rfl | omega | (simp; done) | (simp; omega)) | exact eq_bool rfl (by simp_all)) ?_ | exact all_nil)) (by repeat (first | refine all_cons (by first | rfl | exact eq_int rfl (by first | rfl | omega | (simp; done) | (simp; omega)) | exact eq_loc rfl (by first | rfl | omega | (simp; done) | (simp; omega)) | exact eq_bool rfl (by simp_all)) ?_ | exact all_nil)) rfl rfl, _, _, _, _, [0], markDriveS_c x.drives (k) (by omega) (by omega) hx.1 hx.2, (rens_cons (ren_one (ren_loc rfl (by simp))) (rens_cons (ren_one (ren_int (by first | rfl | omega))) rens_nil)), (hasRows_cons rfl hasRows_nil), (by decide), rfl, (sfm_cons (sf_row (nbRow_map (fun y => DDrive.enc_nb y) _)) (sfm_cons rfl (sfm_cons rfl sfm_nil))), rfl, ?_⟩; (conv => whnf)
  refine ⟨by first | rfl | (congr 2; omega) | (rw [hcn]; congr 2; omega), ⟨rfl, rfl⟩, rfl, trivial⟩
theorem heldStepS_c (l : List DStep) (k : Nat) (h1 : 1 ≤ k) (h2 : k + cnL DStep.cnE l ≤ 4611686018427387904) (hl : l.length ≤ 4611686018427387904) : Fun1 Tryz.prog 12 [.one (.row true 5 ((mkL DStep.mkE DStep.cnE l k).map DStep.enc)), .one (.lit (.int .i64 k))] (.one (.lit (.int .i64 ((k + cnL DStep.cnE l : Nat) : Int)))) := by
  refine fun1_of_vc tb_ok mix (fn := Tryz.f12) Tryz.func12 rfl (by kernel_rfl) (by kernel_rfl) (by simp [Tryz.f12]) (by rfl) ?_
  (conv => whnf)
  refine ⟨LG (fun i : Nat => i ≤ l.length) (fun i => l.length - i) (fun i => AS.of [(0, .one (.row true 5 ((mkL DStep.mkE DStep.cnE l k).map DStep.enc))), (1, .one (.lit (.int .i64 ((k + cnL DStep.cnE (l.take i) : Nat) : Int)))), (5, .one (.lit (.int .i64 (i : Nat))))] []), lg_init 0 (by omega) (weak_of (by repeat (first | refine all_cons (by first | rfl | exact eq_int rfl (by first | rfl | omega | (simp; done) | (simp; omega)) | exact eq_loc rfl (by first | rfl | omega | (simp; done) | (simp; omega)) | exact eq_bool rfl (by simp_all)) ?_ | exact all_nil)) (by repeat (first | refine all_cons (by first | rfl | exact eq_int rfl (by first | rfl | omega | (simp; done) | (simp; omega)) | exact eq_loc rfl (by first | rfl | omega | (simp; done) | (simp; omega)) | exact eq_bool rfl (by simp_all)) ?_ | exact all_nil)) rfl rfl), ?_⟩
  rintro σ m ⟨i, hi, rfl, rfl⟩
  refine ⟨_, Weak.refl _, ?_⟩
  (conv => whnf)
  (split <;> rename_i h <;> (try simp only [decide_eq_true_eq, decide_eq_false_iff_not, Bool.not_eq_true', Bool.not_eq_false', Bool.not_eq_true, Bool.not_eq_false, List.length_map] at h) <;> conv => whnf)
  · have hlt : i < l.length := by simpa [mkL_length] using h
    have hcs := cnL_take_succ (cn := DStep.cnE) hlt
    have hcl := cnL_take_le (cn := DStep.cnE) (l := l) (i := i + 1)
    generalize hq : k + cnL DStep.cnE (l.take i) = q at *
    have hcn : DStep.cnE l[i] = 1 + 1 + 1 + 1 + 1 := rfl
    have hel : ((mkL DStep.mkE DStep.cnE l k).map DStep.enc)[i]? = some [.lit (.int .i64 ((q : Nat) : Int)), .lit (.int .i64 ((q + 1 : Nat) : Int)), .lit (.string (markStr (q + 1 + 1))), .lit (.string (markStr (q + 1 + 1 + 1))), .lit (.string (markStr (q + 1 + 1 + 1 + 1)))] := by rw [List.getElem?_map, mkL_get hlt, hq]; rfl
    refine ⟨i, rfl, _, hel, ?_⟩; (conv => whnf)
    (first | (split <;> rename_i h4 <;> first | (exfalso; first | (simp at h4; done) | (simp at h4; omega) | (simp_all; done) | (simp_all; omega)) | (conv => whnf)) | skip)
    refine ⟨((q + 1 : Nat) : Int), by rw [← wrap64_id] <;> omega, ?_⟩; (conv => whnf)
    refine ⟨i, rfl, _, hel, ?_⟩; (conv => whnf)
    (first | (split <;> rename_i h4 <;> first | (exfalso; first | (simp at h4; done) | (simp at h4; omega) | (simp_all; done) | (simp_all; omega)) | (conv => whnf)) | skip)
    refine ⟨((q + 1 + 1 : Nat) : Int), by rw [← wrap64_id] <;> omega, ?_⟩; (conv => whnf)
    refine ⟨i, rfl, _, hel, ?_⟩; (conv => whnf)
    refine ⟨_, _, markText_c (q + 1 + 1) (by omega) (by omega), (by repeat' (first | exact lends_nil | exact lend_dead | apply lends_cons | apply lend_agg | apply lend_one | exact all2_nil | apply all2_cons | exact la_lit rfl | exact la_int (by first | rfl | omega) | exact la_row rfl rfl | exact la_loc rfl rfl rfl (by first | rfl | simp [mkL_length]) (by first | rfl | simp) | exact la_nil rfl | apply la_fn rfl | exact lend_same rfl rfl | exact lend_bor rfl rfl)), ?_⟩; (conv => whnf)
    (first | (split <;> rename_i h4 <;> first | (exfalso; first | (simp at h4; done) | (simp at h4; omega) | (simp_all; done) | (simp_all; omega)) | (conv => whnf)) | skip)
    refine ⟨((q + 1 + 1 + 1 : Nat) : Int), by rw [← wrap64_id] <;> omega, ?_⟩; (conv => whnf)
    refine ⟨i, rfl, _, hel, ?_⟩; (conv => whnf)
    refine ⟨_, _, markText_c (q + 1 + 1 + 1) (by omega) (by omega), (by repeat' (first | exact lends_nil | exact lend_dead | apply lends_cons | apply lend_agg | apply lend_one | exact all2_nil | apply all2_cons | exact la_lit rfl | exact la_int (by first | rfl | omega) | exact la_row rfl rfl | exact la_loc rfl rfl rfl (by first | rfl | simp [mkL_length]) (by first | rfl | simp) | exact la_nil rfl | apply la_fn rfl | exact lend_same rfl rfl | exact lend_bor rfl rfl)), ?_⟩; (conv => whnf)
    (first | (split <;> rename_i h4 <;> first | (exfalso; first | (simp at h4; done) | (simp at h4; omega) | (simp_all; done) | (simp_all; omega)) | (conv => whnf)) | skip)
    refine ⟨((q + 1 + 1 + 1 + 1 : Nat) : Int), by rw [← wrap64_id] <;> omega, ?_⟩; (conv => whnf)
    refine ⟨i, rfl, _, hel, ?_⟩; (conv => whnf)
    refine ⟨_, _, markText_c (q + 1 + 1 + 1 + 1) (by omega) (by omega), (by repeat' (first | exact lends_nil | exact lend_dead | apply lends_cons | apply lend_agg | apply lend_one | exact all2_nil | apply all2_cons | exact la_lit rfl | exact la_int (by first | rfl | omega) | exact la_row rfl rfl | exact la_loc rfl rfl rfl (by first | rfl | simp [mkL_length]) (by first | rfl | simp) | exact la_nil rfl | apply la_fn rfl | exact lend_same rfl rfl | exact lend_bor rfl rfl)), ?_⟩; (conv => whnf)
    (first | (split <;> rename_i h4 <;> first | (exfalso; first | (simp at h4; done) | (simp at h4; omega) | (simp_all; done) | (simp_all; omega)) | (conv => whnf)) | skip)
    refine ⟨((q + 1 + 1 + 1 + 1 + 1 : Nat) : Int), by rw [← wrap64_id] <;> omega, ?_⟩; (conv => whnf)
    refine ⟨((i + 1 : Nat) : Int), by rw [← wrap64_id] <;> omega, ?_⟩; (conv => whnf)
    exact lg_back (i + 1) (by omega) (by (try dsimp only); omega) (weak_of (by exact all_cons rfl (all_cons (eq_int rfl (by omega)) (all_cons rfl all_nil))) all_nil rfl rfl)
  · have : i = l.length := by simp [mkL_length] at h; omega
    subst this; rw [List.take_length]; exact ⟨close_int rfl, trivial⟩
end Go.Proofs.YtdbnppipgblajaaGreatDoor
namespace Go.Proofs.YtdbnppipgblajaaGreatDoor
open Go.RowKit
set_option linter.unusedSimpArgs false
set_option linter.unusedVariables false
set_option maxRecDepth 100000
theorem lawPutSteps_c (x0 : DArray) (hi0 : x0.it) (x1 : Int) (hi1 : inI x1) (x2 : ByteArray) (hi2 : x2.size ≤ 9223372036854775807) (x3 : ByteArray) (hi3 : x3.size ≤ 9223372036854775807)
    (H : x0.wt ≤ 1048576 → x2.size ≤ 1048576 → x3.size ≤ 1048576 → ∃ r : List DStep, (r.length ≤ 4294967296 ∧ ∀ y ∈ r, y.ok) ∧ (cnL DStep.cnE r ≤ 2305843009213693952) ∧ (Fun1 Tryz.prog 5 [.agg x0.enc, .one (.lit (.int .i64 x1)), .one (.lit (.string x2)), .one (.lit (.string x3))] (.one (.row true 5 (r.map DStep.enc)))) ∧ (Fun1 Tryz.prog 7 [.agg x0.enc, .one (.lit (.int .i64 x1)), .one (.lit (.string x2)), .one (.lit (.string x3))] (.one (.row true 5 (r.map DStep.enc))))) :
    Fun1 Tryz.prog 3 [.agg x0.enc, .one (.lit (.int .i64 x1)), .one (.lit (.string x2)), .one (.lit (.string x3))] (.one (.lit (.bool true))) := by
  refine law_of_vc tb_ok mix (fn := Tryz.f3) Tryz.func3 rfl (by kernel_rfl) (by kernel_rfl) (by simp [Tryz.f3]) rfl rfl fun u => ?_
  (conv => whnf)
  (split <;> rename_i h <;> (try simp only [decide_eq_true_eq, decide_eq_false_iff_not, Bool.not_eq_true', Bool.not_eq_false', Bool.not_eq_true, Bool.not_eq_false, List.length_map] at h) <;> conv => whnf)
  · exact ⟨close_bool rfl, trivial⟩
  (split <;> rename_i h <;> (try simp only [decide_eq_true_eq, decide_eq_false_iff_not, Bool.not_eq_true', Bool.not_eq_false', Bool.not_eq_true, Bool.not_eq_false, List.length_map] at h) <;> conv => whnf)
  · exact ⟨close_bool rfl, trivial⟩
  have hs1 := szF_or (x0.wt) (1048576)
  refine ⟨_, _, szArray_c x0 (1048576) hi0 (by omega) (by omega), (lends_cons (lend_agg (all2_cons (la_int (by first | rfl | omega)) (all2_cons (la_int (by first | rfl | omega)) (all2_cons (la_par 2 rfl) (all2_nil))))) (lends_cons (lend_one (la_int (by first | rfl | omega))) (lends_nil))), ?_⟩; (conv => whnf)
  (split <;> rename_i h <;> (try simp only [decide_eq_true_eq, decide_eq_false_iff_not, Bool.not_eq_true', Bool.not_eq_false', Bool.not_eq_true, Bool.not_eq_false, List.length_map] at h) <;> conv => whnf)
  · exact ⟨close_bool rfl, trivial⟩
  have hw0 : x0.wt ≤ 1048576 := by omega
  have hw2 : x2.size ≤ 1048576 := by omega
  have hw3 : x3.size ≤ 1048576 := by omega
  obtain ⟨r, hrok, hrcn, hspec, himpl⟩ := H hw0 hw2 hw3
  have hok0 := DArray.ok_of x0 hi0 (by omega)
  have hyp0 := DArray.hyp_of x0 hok0
  have hcn0 := DArray.cnV_le x0
  have hypr := hypStepS_of r hrok
  refine ⟨_, _, toArray_c x0 (by omega), (lends_cons (lend_agg (all2_cons (la_int (by first | rfl | omega)) (all2_cons (la_int (by first | rfl | omega)) (all2_cons (la_par 2 rfl) (all2_nil))))) (lends_nil)), ?_⟩; (conv => whnf)
  refine ⟨_, _, hspec, (lends_cons (lend_agg (all2_cons (la_int (by first | rfl | omega)) (all2_cons (la_int (by first | rfl | omega)) (all2_cons (la_loc rfl rfl rfl rfl rfl) (all2_nil))))) (lends_cons (lend_one (la_int (by first | rfl | omega))) (lends_cons (lend_one (la_lit rfl)) (lends_cons (lend_one (la_lit rfl)) (lends_nil))))), ?_⟩; (conv => whnf)
  refine ⟨_, _, toArray_c x0 (by omega), (lends_cons (lend_agg (all2_cons (la_int (by first | rfl | omega)) (all2_cons (la_int (by first | rfl | omega)) (all2_cons (la_par 2 rfl) (all2_nil))))) (lends_nil)), ?_⟩; (conv => whnf)
  refine ⟨_, _, himpl, (lends_cons (lend_agg (all2_cons (la_int (by first | rfl | omega)) (all2_cons (la_int (by first | rfl | omega)) (all2_cons (la_loc rfl rfl rfl rfl rfl) (all2_nil))))) (lends_cons (lend_one (la_int (by first | rfl | omega))) (lends_cons (lend_one (la_lit rfl)) (lends_cons (lend_one (la_lit rfl)) (lends_nil))))), ?_⟩; (conv => whnf)
  refine ⟨_, _, eqStepS_c r hrok.1 hrok.2, (lends_cons (lend_one (la_loc rfl rfl rfl rfl rfl)) (lends_cons (lend_one (la_loc rfl rfl rfl rfl rfl)) (lends_nil))), ?_⟩; (conv => whnf)
  refine ⟨_, _, toArray_c x0 (by omega), (lends_cons (lend_agg (all2_cons (la_int (by first | rfl | omega)) (all2_cons (la_int (by first | rfl | omega)) (all2_cons (la_par 2 rfl) (all2_nil))))) (lends_nil)), ?_⟩; (conv => whnf)
  refine ⟨_, _, eqArray_c x0 hok0, (lends_cons (lend_agg (all2_cons (la_int (by first | rfl | omega)) (all2_cons (la_int (by first | rfl | omega)) (all2_cons (la_loc rfl rfl rfl rfl rfl) (all2_nil))))) (lends_cons (lend_agg (all2_cons (la_int (by first | rfl | omega)) (all2_cons (la_int (by first | rfl | omega)) (all2_cons (la_loc rfl rfl rfl rfl rfl) (all2_nil))))) (lends_nil))), ?_⟩; (conv => whnf)
  refine ⟨[(1, .one (.lit (.int .i64 x1))), (2, .one (.lit (.string x2))), (3, .one (.lit (.string x3))), (4, .one (.ptr 64 0)), (10, .one (.loc 528 0 (r.map DStep.enc).length)), (12, .one (.loc 640 0 (r.map DStep.enc).length)), (50, .agg [.lit (.int .i64 x0.k), .lit (.int .i64 x0.m), .loc 562 0 (x0.drives.map DDrive.enc).length]), (51, .one (.lit (.int .i64 ((1 : Nat) : Int))))], [(2, .par (u 2) (.row true 2 (x0.drives.map DDrive.enc))), (64, .var [.lit (.int .i64 x0.k), .lit (.int .i64 x0.m), .lit (u 2)]), (528, .row true 5 (r.map DStep.enc)), (562, .row true 2 (x0.drives.map DDrive.enc)), (640, .row true 5 (r.map DStep.enc))], weak_of (all_cons rfl (all_cons rfl (all_cons rfl (all_cons rfl (all_cons rfl (all_cons rfl (all_cons rfl (all_cons rfl all_nil)))))))) (all_cons rfl (all_cons rfl (all_cons rfl (all_cons rfl (all_cons rfl all_nil))))) rfl rfl, _, _, _, _, [562], markArray_c x0 (1) (by omega) (by omega) hyp0, (rens_cons (ren_agg (by repeat' (first | exact all2_nil | apply all2_cons | exact ren_lit rfl | exact ren_loc rfl rfl | exact ren_loc rfl (by simp)))) (rens_cons (ren_one (ren_int (by first | rfl | omega))) rens_nil)), (hasRows_cons rfl hasRows_nil), (by decide), rfl, (sfm_cons rfl (sfm_cons rfl (sfm_cons (sf_row (nbRow_map (fun y => DStep.enc_nb y) _)) (sfm_cons (sf_row (nbRow_map (fun y => DDrive.enc_nb y) _)) (sfm_cons (sf_row (nbRow_map (fun y => DStep.enc_nb y) _)) sfm_nil))))), rfl, ?_⟩; (conv => whnf)
  refine ⟨_, _, eqStepS_c r hrok.1 hrok.2, (lends_cons (lend_one (la_loc rfl rfl rfl rfl rfl)) (lends_cons (lend_one (la_loc rfl rfl rfl rfl rfl)) (lends_nil))), ?_⟩; (conv => whnf)
  refine ⟨[(1, .one (.lit (.int .i64 x1))), (2, .one (.lit (.string x2))), (3, .one (.lit (.string x3))), (4, .one (.ptr 64 0)), (10, .one (.loc 528 0 (r.map DStep.enc).length)), (12, .one (.loc 640 0 (r.map DStep.enc).length)), (61, .one (.loc 640 0 (r.map DStep.enc).length)), (62, .one (.lit (.int .i64 ((1 : Nat) : Int))))], [(2, .par (u 2) (.row true 2 (x0.drives.map DDrive.enc))), (64, .var [.lit (.int .i64 x0.k), .lit (.int .i64 x0.m), .lit (u 2)]), (528, .row true 5 (r.map DStep.enc)), (640, .row true 5 (r.map DStep.enc))], weak_of (all_cons rfl (all_cons rfl (all_cons rfl (all_cons rfl (all_cons rfl (all_cons rfl (all_cons rfl (all_cons rfl all_nil)))))))) (all_cons rfl (all_cons rfl (all_cons rfl (all_cons rfl all_nil)))) rfl rfl, _, _, _, _, [640], markStepS_c r (1) (by omega) (by omega) hypr, (rens_cons (ren_one (ren_loc rfl (by simp))) (rens_cons (ren_one (ren_int (by first | rfl | omega))) rens_nil)), (hasRows_cons rfl hasRows_nil), (by decide), rfl, (sfm_cons rfl (sfm_cons rfl (sfm_cons (sf_row (nbRow_map (fun y => DStep.enc_nb y) _)) (sfm_cons (sf_row (nbRow_map (fun y => DStep.enc_nb y) _)) sfm_nil)))), rfl, ?_⟩; (conv => whnf)
  refine ⟨_, _, heldStepS_c r (1) (by omega) (by omega) hypr, (lends_cons (lend_one (la_loc rfl rfl rfl (by simp [mkL_length]) rfl)) (lends_cons (lend_one (la_int (by first | rfl | omega))) (lends_nil))), ?_⟩; (conv => whnf)
  (first | (split <;> rename_i h <;> first | (exfalso; first | (simp at h; done) | (simp at h; omega) | (simp_all; done) | (simp_all; omega)) | (conv => whnf)) | skip)
  refine ⟨_, _, toArray_c x0 (by omega), (lends_cons (lend_agg (all2_cons (la_int (by first | rfl | omega)) (all2_cons (la_int (by first | rfl | omega)) (all2_cons (la_par 2 rfl) (all2_nil))))) (lends_nil)), ?_⟩; (conv => whnf)
  refine ⟨_, _, himpl, (lends_cons (lend_agg (all2_cons (la_int (by first | rfl | omega)) (all2_cons (la_int (by first | rfl | omega)) (all2_cons (la_loc rfl rfl rfl rfl rfl) (all2_nil))))) (lends_cons (lend_one (la_int (by first | rfl | omega))) (lends_cons (lend_one (la_lit rfl)) (lends_cons (lend_one (la_lit rfl)) (lends_nil))))), ?_⟩; (conv => whnf)
  refine ⟨_, _, eqStepS_c r hrok.1 hrok.2, (lends_cons (lend_one (la_loc rfl rfl rfl rfl rfl)) (lends_cons (lend_one (la_loc rfl rfl rfl rfl rfl)) (lends_nil))), ?_⟩; (conv => whnf)
  refine ⟨_, _, heldStepS_c r (1) (by omega) (by omega) hypr, (lends_cons (lend_one (la_loc rfl rfl rfl (by simp [mkL_length]) rfl)) (lends_cons (lend_one (la_int (by first | rfl | omega))) (lends_nil))), ?_⟩; (conv => whnf)
  (first | (split <;> rename_i h <;> first | (exfalso; first | (simp at h; done) | (simp at h; omega) | (simp_all; done) | (simp_all; omega)) | (conv => whnf)) | skip)
  exact ⟨close_bool rfl, trivial⟩
end Go.Proofs.YtdbnppipgblajaaGreatDoor
namespace Go.Proofs.YtdbnppipgblajaaGreatDoor
open Go.RowKit
set_option linter.unusedSimpArgs false
set_option linter.unusedVariables false
/-- Bytes before bytes. -/
def bLt (a b : ByteArray) : Bool := sless a b
/-- May a byte stand in a name at a place? -/
def nmAt (s : ByteArray) (i : Nat) : Bool :=
  let c := (s.data.toList.getD i 0).toNat
  (decide (97 ≤ c) && decide (c ≤ 122)) || (decide (i ≠ 0) && ((decide (48 ≤ c) && decide (c ≤ 57)) || decide (c = 45)))
theorem nmAt_t {s : ByteArray} {i : Nat} (h : (97 ≤ (s.data.toList.getD i 0).toNat ∧ (s.data.toList.getD i 0).toNat ≤ 122) ∨ (i ≠ 0 ∧ ((48 ≤ (s.data.toList.getD i 0).toNat ∧ (s.data.toList.getD i 0).toNat ≤ 57) ∨ (s.data.toList.getD i 0).toNat = 45))) : nmAt s i = true := by
  simp only [nmAt, Bool.or_eq_true, Bool.and_eq_true, decide_eq_true_eq]; exact h
theorem nmAt_f {s : ByteArray} {i : Nat} (h : ¬ ((97 ≤ (s.data.toList.getD i 0).toNat ∧ (s.data.toList.getD i 0).toNat ≤ 122) ∨ (i ≠ 0 ∧ ((48 ≤ (s.data.toList.getD i 0).toNat ∧ (s.data.toList.getD i 0).toNat ≤ 57) ∨ (s.data.toList.getD i 0).toNat = 45)))) : nmAt s i = false := by
  rw [Bool.eq_false_iff]; intro e; apply h
  simpa only [nmAt, Bool.or_eq_true, Bool.and_eq_true, decide_eq_true_eq] using e
def nameOk (s : ByteArray) (most : Int) : Bool := (List.range s.size).all (nmAt s) && (decide ((1 : Int) ≤ s.size) && decide ((s.size : Int) ≤ most))
theorem range_all_true {n : Nat} {p : Nat → Bool} (h : ∀ j, j < n → p j = true) : (List.range n).all p = true := by
  rw [List.all_eq_true]; intro j hj; exact h j (List.mem_range.1 hj)
theorem range_all_false {n j : Nat} {p : Nat → Bool} (hj : j < n) (h : p j = false) : (List.range n).all p = false := by
  rw [List.all_eq_false]; exact ⟨j, List.mem_range.2 hj, by simp [h]⟩
def usedN (fs : List DStored) : Nat := (fs.map fun f => f.text.size).sum
theorem usedN_take_succ {fs : List DStored} {k : Nat} (hk : k < fs.length) : usedN (fs.take (k + 1)) = usedN (fs.take k) + fs[k].text.size := wsum_take_succ (f := fun f : DStored => f.text.size) hk
theorem usedN_take_le (fs : List DStored) (k : Nat) : usedN (fs.take k) ≤ usedN fs := sum_take_le _ fs k
theorem usedN_le (fs : List DStored) : usedN fs ≤ wL DStored.wt fs := by
  unfold wL usedN
  induction fs with
  | nil => simp
  | cons f fs ih =>
    have : f.wt = f.name.size + f.text.size := rfl
    simp only [List.map_cons, List.sum_cons, List.length_cons] at ih ⊢
    omega
/-- Is file i right, and behind the one ahead of it? -/
def fOk (fs : List DStored) (i : Nat) : Bool :=
  match fs[i]? with
  | none => false
  | some f => nameOk f.name 80 && (decide (i = 0) || bLt ((fs[i - 1]?).getD f).name f.name) && decide (f.text.size ≤ 20000) && decide (0 ≤ f.synced) && decide (f.synced ≤ f.text.size)
def filesOk (fs : List DStored) : Bool := (List.range fs.length).all (fOk fs)
def driveOk (d : DDrive) : Bool := decide (d.files.length ≤ 60) && decide (0 ≤ d.room) && decide (d.room ≤ 100000) && filesOk d.files && decide ((usedN d.files : Int) ≤ d.room)
theorem fOk_eq {fs : List DStored} {i : Nat} (hi : i < fs.length) : fOk fs i = (nameOk fs[i].name 80 && (decide (i = 0) || bLt (fs[i - 1]'(by omega)).name fs[i].name) && decide (fs[i].text.size ≤ 20000) && decide (0 ≤ fs[i].synced) && decide (fs[i].synced ≤ fs[i].text.size)) := by
  unfold fOk
  rw [List.getElem?_eq_getElem hi, List.getElem?_eq_getElem (show i - 1 < fs.length by omega)]; rfl
theorem bytesLess_lt : ∀ (x y : List UInt8), Op.bytesLess x y = decide (x < y)
  | [], [] => by simp [Op.bytesLess]
  | _ :: _, [] => by simp [Op.bytesLess]
  | [], _ :: _ => by simp [Op.bytesLess]
  | a :: x, b :: y => by
    rw [Op.bytesLess, bytesLess_lt x y]
    simp only [List.cons_lt_cons_iff]
    by_cases h1 : a < b <;> by_cases h2 : a = b <;> by_cases h3 : x < y <;> simp [h1, h2, h3]
theorem u8_trans {a b c : UInt8} (h : a < b) (k : b < c) : a < c := by rw [UInt8.lt_iff_toNat_lt] at *; omega
theorem u8_irrefl (a : UInt8) : ¬ a < a := by rw [UInt8.lt_iff_toNat_lt]; omega
theorem u8_tri (a b : UInt8) : a < b ∨ a = b ∨ b < a := by
  rcases Nat.lt_trichotomy a.toNat b.toNat with h | h | h
  · exact .inl (UInt8.lt_iff_toNat_lt.2 h)
  · exact .inr (.inl (UInt8.toNat_inj.1 h))
  · exact .inr (.inr (UInt8.lt_iff_toNat_lt.2 h))
theorem bytes_trans : ∀ {x y z : List UInt8}, x < y → y < z → x < z
  | _, [], _, h, _ => by simp at h
  | [], _ :: _, [], _, k => by simp at k
  | [], _ :: _, _ :: _, _, _ => by simp
  | _ :: _, _ :: _, [], _, k => by simp at k
  | a :: x, b :: y, c :: z, h, k => by
    simp only [List.cons_lt_cons_iff] at *
    rcases h with h | ⟨rfl, h⟩
    · rcases k with k | ⟨rfl, k⟩
      · exact .inl (u8_trans h k)
      · exact .inl h
    · rcases k with k | ⟨rfl, k⟩
      · exact .inl k
      · exact .inr ⟨rfl, bytes_trans h k⟩
theorem cmp_neg : ∀ (x y : List UInt8), Lib.compareBytes x y < 0 ↔ x < y
  | [], [] => by simp [Lib.compareBytes]
  | _ :: _, [] => by simp [Lib.compareBytes]
  | [], _ :: _ => by simp [Lib.compareBytes]
  | a :: x, b :: y => by
    simp only [Lib.compareBytes, List.cons_lt_cons_iff]
    by_cases h1 : a < b
    · simp [h1]
    · by_cases h2 : b < a
      · have : a ≠ b := fun e => u8_irrefl a (by rw [e] at h2 ⊢; exact h2)
        simp [h1, h2, this]
      · have : a = b := by
          rcases u8_tri a b with h | h | h
          · exact absurd h h1
          · exact h
          · exact absurd h h2
        simp [h1, h2, this, cmp_neg x y, u8_irrefl]
theorem cmp_zero : ∀ (x y : List UInt8), Lib.compareBytes x y = 0 ↔ x = y
  | [], [] => by simp [Lib.compareBytes]
  | _ :: _, [] => by simp [Lib.compareBytes]
  | [], _ :: _ => by simp [Lib.compareBytes]
  | a :: x, b :: y => by
    simp only [Lib.compareBytes]
    by_cases h1 : a < b
    · have : a ≠ b := fun e => u8_irrefl b (by rw [e] at h1; exact h1)
      simp [h1, this]
    · by_cases h2 : b < a
      · have : a ≠ b := fun e => u8_irrefl b (by rw [e] at h2; exact h2)
        simp [h1, h2, this]
      · have : a = b := by
          rcases u8_tri a b with h | h | h
          · exact absurd h h1
          · exact h
          · exact absurd h h2
        simp [h1, h2, this, cmp_zero x y, u8_irrefl]
theorem bLt_iff (a b : ByteArray) : bLt a b = true ↔ a.data.toList < b.data.toList := by
  unfold bLt sless
  rw [bytesLess_lt, Lib.toList_data, Lib.toList_data]; simp
theorem bLt_trans {a b c : ByteArray} (h : bLt a b = true) (k : bLt b c = true) : bLt a c = true := (bLt_iff a c).2 (bytes_trans ((bLt_iff a b).1 h) ((bLt_iff b c).1 k))
theorem bytes_eq {a b : ByteArray} (h : a.data.toList = b.data.toList) : a = b := by
  cases a; cases b; simp at h; simpa using h
def cmpB (a b : ByteArray) : Int := Lib.compareBytes a.data.toList b.data.toList
theorem cmpB_neg (a b : ByteArray) : cmpB a b < 0 ↔ bLt a b = true := (cmp_neg _ _).trans (bLt_iff a b).symm
theorem cmpB_zero (a b : ByteArray) : cmpB a b = 0 ↔ a = b := (cmp_zero _ _).trans ⟨bytes_eq, fun h => by rw [h]⟩
theorem sorted_of {d : DDrive} (h : driveOk d = true) : ∀ (j i : Nat) (hi : i < j) (hj : j < d.files.length), bLt (d.files[i]'(by omega)).name d.files[j].name = true := by
  have step : ∀ j (hj : j + 1 < d.files.length), bLt (d.files[j]'(by omega)).name d.files[j + 1].name = true := fun j hj => by
    unfold driveOk at h
    simp only [Bool.and_eq_true] at h
    have h1 := List.all_eq_true.1 h.1.2 (j + 1) (List.mem_range.2 hj)
    rw [fOk_eq hj] at h1
    simp only [Bool.and_eq_true, Bool.or_eq_true, decide_eq_true_eq] at h1
    rcases h1.1.1.1.2 with h2 | h2
    · omega
    · exact h2
  intro j
  induction j with
  | zero => intro i hi; omega
  | succ j ih =>
    intro i hi hj
    by_cases e : i = j
    · subst e; exact step i hj
    · exact bLt_trans (ih i (by omega) (by omega)) (step j hj)
/-- The place of a name among names in order, and whether it is there. -/
def findP (fs : List DStored) (name : ByteArray) : Nat := fs.countP fun f => bLt f.name name
def hasN (fs : List DStored) (name : ByteArray) : Bool := fs.any fun f => decide (f.name = name)
theorem countP_cut {α : Type} {p : α → Bool} : ∀ (l : List α) (i : Nat), i ≤ l.length → (∀ t (h : t < l.length), t < i → p l[t] = true) → (∀ t (h : t < l.length), i ≤ t → p l[t] = false) → l.countP p = i
  | [], i, hi, _, _ => by simp at hi; simp [hi]
  | a :: r, 0, _, _, h2 => by
    rw [List.countP_eq_zero]
    intro x hx
    obtain ⟨t, ht, rfl⟩ := List.getElem_of_mem hx
    simp [h2 t ht (Nat.zero_le _)]
  | a :: r, i + 1, hi, h1, h2 => by
    have ha : p a = true := h1 0 (by simp) (Nat.succ_pos _)
    rw [List.countP_cons_of_pos ha, countP_cut r i (by simpa using hi) (fun t h ht => h1 (t + 1) (by simpa using h) (by omega)) (fun t h ht => h2 (t + 1) (by simpa using h) (by omega))]
theorem findP_cut {fs : List DStored} {name : ByteArray} {k : Nat} (hk : k ≤ fs.length) (h1 : ∀ t (h : t < fs.length), t < k → cmpB fs[t].name name < 0) (h2 : ∀ t (h : t < fs.length), k ≤ t → 0 ≤ cmpB fs[t].name name) : findP fs name = k :=
  countP_cut fs k hk (fun t h ht => (cmpB_neg _ _).1 (h1 t h ht)) (fun t h ht => by rw [Bool.eq_false_iff]; exact fun e => by have := h2 t h ht; have := (cmpB_neg _ _).2 e; omega)
theorem hasN_cut {d : DDrive} (hd : driveOk d = true) {name : ByteArray} {k : Nat} (hk : k < d.files.length) (h1 : ∀ t (h : t < d.files.length), t < k → cmpB d.files[t].name name < 0) (h2 : ∀ t (h : t < d.files.length), k ≤ t → 0 ≤ cmpB d.files[t].name name) : hasN d.files name = decide (cmpB d.files[k].name name = 0) := by
  rw [Bool.eq_iff_iff, decide_eq_true_eq, hasN, List.any_eq_true]
  constructor
  · rintro ⟨f, hf, e⟩
    obtain ⟨i, hi, rfl⟩ := List.getElem_of_mem hf
    have e := of_decide_eq_true e
    have h0 := (cmpB_zero _ _).2 e
    by_cases hik : i < k
    · have := h1 i hi hik; omega
    · by_cases e2 : i = k
      · subst e2; exact h0
      · have h3 := sorted_of hd i k (by omega) hi
        rw [e] at h3
        have := (cmpB_neg _ _).2 h3
        have := h2 k hk (Nat.le_refl _)
        omega
  · intro h
    exact ⟨_, List.getElem_mem hk, by simpa using (cmpB_zero _ _).1 h⟩
theorem hasN_none {fs : List DStored} {name : ByteArray} (h1 : ∀ t (h : t < fs.length), cmpB fs[t].name name < 0) : hasN fs name = false := by
  rw [Bool.eq_false_iff]
  intro h
  rw [hasN, List.any_eq_true] at h
  obtain ⟨f, hf, e⟩ := h
  obtain ⟨i, hi, rfl⟩ := List.getElem_of_mem hf
  have := (cmpB_zero _ _).2 (of_decide_eq_true e)
  have := h1 i hi
  omega
def findI (fs : List DStored) (name : ByteArray) : Int := if hasN fs name then ((fs.findIdx fun f => decide (f.name = name) : Nat) : Int) else -1
theorem findI_at {fs : List DStored} {name : ByteArray} {k : Nat} (hk : k < fs.length) (h1 : ∀ t (h : t < fs.length), t < k → fs[t].name ≠ name) (h2 : fs[k].name = name) : findI fs name = k := by
  have h : hasN fs name = true := by rw [hasN, List.any_eq_true]; exact ⟨_, List.getElem_mem hk, by simpa using h2⟩
  rw [findI, if_pos h]
  have : (fs.findIdx fun f => decide (f.name = name)) = k := by
    rw [List.findIdx_eq hk]
    exact ⟨by simpa using h2, fun j hj => by simpa using h1 j (by omega) hj⟩
  rw [this]
theorem findI_none {fs : List DStored} {name : ByteArray} (h1 : ∀ t (h : t < fs.length), fs[t].name ≠ name) : findI fs name = -1 ∧ hasN fs name = false := by
  have h : hasN fs name = false := by
    rw [Bool.eq_false_iff]
    intro h
    rw [hasN, List.any_eq_true] at h
    obtain ⟨f, hf, e⟩ := h
    obtain ⟨i, hi, rfl⟩ := List.getElem_of_mem hf
    exact h1 i hi (of_decide_eq_true e)
  rw [findI, h]
  exact ⟨rfl, rfl⟩
end Go.Proofs.YtdbnppipgblajaaGreatDoor
namespace Go.Proofs.YtdbnppipgblajaaGreatDoor
open Go.RowKit
set_option linter.unusedSimpArgs false
set_option linter.unusedVariables false
set_option maxRecDepth 100000
theorem within_c (a b c : Int) : Fun1 Tryz.prog 41 [.one (.lit (.int .i64 a)), .one (.lit (.int .i64 b)), .one (.lit (.int .i64 c))] (.one (.lit (.bool (decide (b ≤ a) && decide (a ≤ c))))) := by
  refine fun1_of_vc tb_ok mix (fn := Tryz.f41) Tryz.func41 rfl (by kernel_rfl) (by kernel_rfl) (by simp [Tryz.f41]) (by rfl) ?_
  (conv => whnf)
  (repeat' (split <;> rename_i hb <;> (try simp only [decide_eq_true_eq, decide_eq_false_iff_not, Bool.not_eq_true', Bool.not_eq_false', Bool.not_eq_true, Bool.not_eq_false, List.length_map] at hb) <;> conv => whnf))
  all_goals exact ⟨close_bool (by simp [*]), trivial⟩
theorem long_c (s : ByteArray) : Fun1 Tryz.prog 63 [.one (.lit (.string s))] (.one (.lit (.int .i64 (s.size : Nat)))) := by
  refine fun1_of_vc tb_ok mix (fn := Tryz.f63) Tryz.func63 rfl (by kernel_rfl) (by kernel_rfl) (by simp [Tryz.f63]) (by rfl) ?_
  (conv => whnf)
  exact (by repeat' (first | exact trivial | exact close_int rfl | exact close_str rfl | exact close_bool rfl | exact close_int (by omega) | exact close_row rfl rfl (by first | rfl | simp) (by first | rfl | simp) | exact close_nil (by first | rfl | simp) | exact rfl | apply And.intro | apply closeTs_cons rfl))
theorem isLong_c (s : ByteArray) : Fun1 Tryz.prog 19 [.one (.lit (.string s))] (.one (.lit (.bool (decide (20000 < (s.size : Int)))))) := by
  refine fun1_of_vc tb_ok mix (fn := Tryz.f19) Tryz.func19 rfl (by kernel_rfl) (by kernel_rfl) (by simp [Tryz.f19]) (by rfl) ?_
  (conv => whnf)
  exact (by repeat' (first | exact trivial | exact close_int rfl | exact close_str rfl | exact close_bool rfl | exact close_int (by omega) | exact close_row rfl rfl (by first | rfl | simp) (by first | rfl | simp) | exact close_nil (by first | rfl | simp) | exact rfl | apply And.intro | apply closeTs_cons rfl))
theorem l02Byte_c (a : Int) : Fun1 Tryz.prog 100 [.one (.lit (.int .i64 a))] (.one (.lit (.bool (decide (0 ≤ a) && decide (a ≤ 255))))) := by
  refine fun1_of_vc tb_ok mix (fn := Tryz.f100) Tryz.func100 rfl (by kernel_rfl) (by kernel_rfl) (by simp [Tryz.f100]) (by rfl) ?_
  (conv => whnf)
  (repeat' (split <;> rename_i hb <;> (try simp only [decide_eq_true_eq, decide_eq_false_iff_not, Bool.not_eq_true', Bool.not_eq_false', Bool.not_eq_true, Bool.not_eq_false, List.length_map] at hb) <;> conv => whnf))
  all_goals exact ⟨close_bool (by simp [*]), trivial⟩
theorem nameSpec_c (s : ByteArray) (hs : s.size ≤ 4294967296) : Fun1 Tryz.prog 31 [.one (.lit (.string s))] (.one (.lit (.bool (nameOk s 80)))) := by
  refine fun1_of_vc tb_ok mix (fn := Tryz.f31) Tryz.func31 rfl (by kernel_rfl) (by kernel_rfl) (by simp [Tryz.f31]) (by rfl) ?_
  (conv => whnf)
  (repeat' (split <;> rename_i hb <;> (try simp only [decide_eq_true_eq, decide_eq_false_iff_not, Bool.not_eq_true', Bool.not_eq_false', Bool.not_eq_true, Bool.not_eq_false, List.length_map] at hb) <;> conv => whnf))
  · exact ⟨close_bool (by simp [nameOk]; omega), trivial⟩
  · exact ⟨close_bool (by simp [nameOk]; omega), trivial⟩
  rename_i hb1 _ hb2
  refine ⟨LG (fun i : Nat => i ≤ s.size ∧ ∀ j, j < i → nmAt s j = true) (fun i => s.size - i) (fun i => AS.of [(0, .one (.lit (.string s))), (3, .one (.lit (.int .i64 (i : Nat))))] []), lg_init 0 ⟨by omega, fun j h => by omega⟩ (weak_of (by repeat (first | refine all_cons (by first | rfl | exact eq_int rfl (by first | rfl | omega | (simp; done) | (simp; omega)) | exact eq_loc rfl (by first | rfl | omega | (simp; done) | (simp; omega)) | exact eq_bool rfl (by simp_all)) ?_ | exact all_nil)) (by repeat (first | refine all_cons (by first | rfl | exact eq_int rfl (by first | rfl | omega | (simp; done) | (simp; omega)) | exact eq_loc rfl (by first | rfl | omega | (simp; done) | (simp; omega)) | exact eq_bool rfl (by simp_all)) ?_ | exact all_nil)) rfl rfl), ?_⟩
  rintro σ k ⟨i, ⟨hi, hc⟩, rfl, rfl⟩
  refine ⟨_, Weak.refl _, ?_⟩
  (conv => whnf)
  (split <;> rename_i h <;> (try simp only [decide_eq_true_eq, decide_eq_false_iff_not, Bool.not_eq_true', Bool.not_eq_false', Bool.not_eq_true, Bool.not_eq_false, List.length_map] at h) <;> conv => whnf)
  · refine ⟨i, rfl, by omega, ?_⟩; (conv => whnf)
    (repeat' (split <;> rename_i hb <;> (try simp only [decide_eq_true_eq, decide_eq_false_iff_not, Bool.not_eq_true', Bool.not_eq_false', Bool.not_eq_true, Bool.not_eq_false, List.length_map] at hb) <;> conv => whnf))
    all_goals first
      | (refine ⟨close_bool ?_, trivial⟩; have hn : nmAt s i = false := nmAt_f (by omega); simp only [nameOk, range_all_false (p := nmAt s) (n := s.size) (j := i) (by omega) hn, Bool.false_and]; done)
      | ((refine ⟨((i + 1 : Nat) : Int), by rw [← wrap64_id] <;> omega, ?_⟩; conv => whnf); exact lg_back (i + 1) ⟨by omega, fun j hj => by
          by_cases e : j = i
          · subst e; exact nmAt_t (by omega)
          · exact hc j (by omega)⟩ (by (try dsimp only); omega) (weak_of (by repeat (first | refine all_cons (by first | rfl | exact eq_int rfl (by first | rfl | omega | (simp; done) | (simp; omega)) | exact eq_loc rfl (by first | rfl | omega | (simp; done) | (simp; omega)) | exact eq_bool rfl (by simp_all)) ?_ | exact all_nil)) (by repeat (first | refine all_cons (by first | rfl | exact eq_int rfl (by first | rfl | omega | (simp; done) | (simp; omega)) | exact eq_loc rfl (by first | rfl | omega | (simp; done) | (simp; omega)) | exact eq_bool rfl (by simp_all)) ?_ | exact all_nil)) rfl rfl))
  · have : i = s.size := by omega
    subst this
    exact ⟨close_bool (by simp [nameOk, range_all_true hc]; omega), trivial⟩
theorem isName_c (s : ByteArray) (most : Int) (hs : s.size ≤ 4294967296) : Fun1 Tryz.prog 42 [.one (.lit (.string s)), .one (.lit (.int .i64 most))] (.one (.lit (.bool (nameOk s most)))) := by
  refine fun1_of_vc tb_ok mix (fn := Tryz.f42) Tryz.func42 rfl (by kernel_rfl) (by kernel_rfl) (by simp [Tryz.f42]) (by rfl) ?_
  (conv => whnf)
  refine ⟨LG (fun i : Nat => i ≤ s.size ∧ ∀ j, j < i → nmAt s j = true) (fun i => s.size - i) (fun i => AS.of [(0, .one (.lit (.string s))), (1, .one (.lit (.int .i64 most))), (8, .one (.lit (.int .i64 (s.size : Nat)))), (9, .one (.lit (.int .i64 (i : Nat))))] []), lg_init 0 ⟨by omega, fun j h => by omega⟩ (weak_of (by repeat (first | refine all_cons (by first | rfl | exact eq_int rfl (by first | rfl | omega | (simp; done) | (simp; omega)) | exact eq_loc rfl (by first | rfl | omega | (simp; done) | (simp; omega)) | exact eq_bool rfl (by simp_all)) ?_ | exact all_nil)) (by repeat (first | refine all_cons (by first | rfl | exact eq_int rfl (by first | rfl | omega | (simp; done) | (simp; omega)) | exact eq_loc rfl (by first | rfl | omega | (simp; done) | (simp; omega)) | exact eq_bool rfl (by simp_all)) ?_ | exact all_nil)) rfl rfl), ?_⟩
  rintro σ k ⟨i, ⟨hi, hc⟩, rfl, rfl⟩
  refine ⟨_, Weak.refl _, ?_⟩
  (conv => whnf)
  (split <;> rename_i h <;> (try simp only [decide_eq_true_eq, decide_eq_false_iff_not, Bool.not_eq_true', Bool.not_eq_false', Bool.not_eq_true, Bool.not_eq_false, List.length_map] at h) <;> conv => whnf)
  · refine ⟨i, rfl, by omega, ?_⟩; (conv => whnf)
    (repeat' (split <;> rename_i hb <;> (try simp only [decide_eq_true_eq, decide_eq_false_iff_not, Bool.not_eq_true', Bool.not_eq_false', Bool.not_eq_true, Bool.not_eq_false, List.length_map] at hb) <;> conv => whnf))
    all_goals first
      | (refine ⟨close_bool ?_, trivial⟩; have hn : nmAt s i = false := nmAt_f (by omega); simp only [nameOk, range_all_false (p := nmAt s) (n := s.size) (j := i) (by omega) hn, Bool.false_and]; done)
      | ((refine ⟨((i + 1 : Nat) : Int), by rw [← wrap64_id] <;> omega, ?_⟩; conv => whnf); exact lg_back (i + 1) ⟨by omega, fun j hj => by
          by_cases e : j = i
          · subst e; exact nmAt_t (by omega)
          · exact hc j (by omega)⟩ (by (try dsimp only); omega) (weak_of (by repeat (first | refine all_cons (by first | rfl | exact eq_int rfl (by first | rfl | omega | (simp; done) | (simp; omega)) | exact eq_loc rfl (by first | rfl | omega | (simp; done) | (simp; omega)) | exact eq_bool rfl (by simp_all)) ?_ | exact all_nil)) (by repeat (first | refine all_cons (by first | rfl | exact eq_int rfl (by first | rfl | omega | (simp; done) | (simp; omega)) | exact eq_loc rfl (by first | rfl | omega | (simp; done) | (simp; omega)) | exact eq_bool rfl (by simp_all)) ?_ | exact all_nil)) rfl rfl))
  · have : i = s.size := by omega
    subst this
    refine ⟨_, _, long_c s, (by repeat' (first | exact lends_nil | exact lend_dead | apply lends_cons | apply lend_agg | apply lend_one | exact all2_nil | apply all2_cons | exact la_lit rfl | exact la_int (by first | rfl | omega) | exact la_row rfl rfl | exact la_loc rfl rfl rfl (by first | rfl | simp [mkL_length]) (by first | rfl | simp) | exact la_nil rfl | apply la_fn rfl | exact lend_same rfl rfl | exact lend_bor rfl rfl)), ?_⟩; (conv => whnf)
    refine ⟨_, _, within_c s.size 1 most, (by repeat' (first | exact lends_nil | exact lend_dead | apply lends_cons | apply lend_agg | apply lend_one | exact all2_nil | apply all2_cons | exact la_lit rfl | exact la_int (by first | rfl | omega) | exact la_row rfl rfl | exact la_loc rfl rfl rfl (by first | rfl | simp [mkL_length]) (by first | rfl | simp) | exact la_nil rfl | apply la_fn rfl | exact lend_same rfl rfl | exact lend_bor rfl rfl)), ?_⟩; (conv => whnf)
    exact ⟨close_bool (by simp [nameOk, range_all_true hc]), trivial⟩
theorem nameImpl_c (s : ByteArray) (hs : s.size ≤ 4294967296) : Fun1 Tryz.prog 62 [.one (.lit (.string s))] (.one (.lit (.bool (nameOk s 80)))) := by
  refine fun1_of_vc tb_ok mix (fn := Tryz.f62) Tryz.func62 rfl (by kernel_rfl) (by kernel_rfl) (by simp [Tryz.f62]) (by rfl) ?_
  (conv => whnf)
  refine ⟨_, _, isName_c s 80 hs, (by repeat' (first | exact lends_nil | exact lend_dead | apply lends_cons | apply lend_agg | apply lend_one | exact all2_nil | apply all2_cons | exact la_lit rfl | exact la_int (by first | rfl | omega) | exact la_row rfl rfl | exact la_loc rfl rfl rfl (by first | rfl | simp [mkL_length]) (by first | rfl | simp) | exact la_nil rfl | apply la_fn rfl | exact lend_same rfl rfl | exact lend_bor rfl rfl)), ?_⟩; (conv => whnf)
  exact (by repeat' (first | exact trivial | exact close_int rfl | exact close_str rfl | exact close_bool rfl | exact close_int (by omega) | exact close_row rfl rfl (by first | rfl | simp) (by first | rfl | simp) | exact close_nil (by first | rfl | simp) | exact rfl | apply And.intro | apply closeTs_cons rfl))
end Go.Proofs.YtdbnppipgblajaaGreatDoor
namespace Go.Proofs.YtdbnppipgblajaaGreatDoor
open Go.RowKit
set_option linter.unusedSimpArgs false
set_option linter.unusedVariables false
set_option maxRecDepth 100000
theorem fOk_f {fs : List DStored} {i : Nat} (hi : i < fs.length) (h : ¬ (nameOk fs[i].name 80 = true ∧ (i = 0 ∨ sless (fs[i - 1]'(by omega)).name fs[i].name = true) ∧ fs[i].text.size ≤ 20000 ∧ 0 ≤ fs[i].synced ∧ fs[i].synced ≤ (fs[i].text.size : Int))) : fOk fs i = false := by
  rw [fOk_eq hi, Bool.eq_false_iff]; intro e; apply h
  simp only [Bool.and_eq_true, Bool.or_eq_true, decide_eq_true_eq, bLt] at e
  obtain ⟨⟨⟨⟨e1, e2⟩, e3⟩, e4⟩, e5⟩ := e
  exact ⟨e1, e2, e3, e4, e5⟩
theorem fOk_t {fs : List DStored} {i : Nat} (hi : i < fs.length) (h : nameOk fs[i].name 80 = true ∧ (i = 0 ∨ sless (fs[i - 1]'(by omega)).name fs[i].name = true) ∧ fs[i].text.size ≤ 20000 ∧ 0 ≤ fs[i].synced ∧ fs[i].synced ≤ (fs[i].text.size : Int)) : fOk fs i = true := by
  rw [fOk_eq hi]
  simp only [Bool.and_eq_true, Bool.or_eq_true, decide_eq_true_eq, bLt]
  exact ⟨⟨⟨⟨h.1, h.2.1⟩, h.2.2.1⟩, h.2.2.2.1⟩, h.2.2.2.2⟩
theorem driveOk_ff {d : DDrive} {i : Nat} (hi : i < d.files.length) (h : fOk d.files i = false) : driveOk d = false := by
  simp [driveOk, filesOk, range_all_false hi h]
theorem driveOk_end {d : DDrive} (h1 : d.files.length ≤ 60) (h2 : 0 ≤ d.room) (h3 : d.room ≤ 100000) (h4 : ∀ j, j < d.files.length → fOk d.files j = true) : driveOk d = decide ((usedN d.files : Int) ≤ d.room) := by
  simp [driveOk, filesOk, range_all_true h4, h1, h2, h3]
theorem usedImpl_c (x : DDrive) (hx : x.ok) (hu : usedN x.files ≤ 1000000000000) : Fun1 Tryz.prog 64 [.agg x.enc] (.one (.lit (.int .i64 (usedN x.files : Nat)))) := by
  obtain ⟨⟨hl, hf⟩, hr⟩ := hx
  refine fun1_of_vc tb_ok mix (fn := Tryz.f64) Tryz.func64 rfl (by kernel_rfl) (by kernel_rfl) (by simp [Tryz.f64]) (by rfl) ?_
  (conv => whnf)
  refine ⟨LG (fun i : Nat => i ≤ x.files.length) (fun i => x.files.length - i) (fun i => AS.of [(3, .one (.lit (.int .i64 (usedN (x.files.take i) : Nat)))), (7, .one (.row false 3 (x.files.map DStored.enc))), (8, .one (.lit (.int .i64 (x.files.length : Nat)))), (9, .one (.lit (.int .i64 (i : Nat))))] []), lg_init 0 (by omega) (weak_of (by repeat (first | refine all_cons (by first | rfl | exact eq_int rfl (by first | rfl | omega | (simp; done) | (simp; omega)) | exact eq_loc rfl (by first | rfl | omega | (simp; done) | (simp; omega)) | exact eq_bool rfl (by simp_all)) ?_ | exact all_nil)) (by repeat (first | refine all_cons (by first | rfl | exact eq_int rfl (by first | rfl | omega | (simp; done) | (simp; omega)) | exact eq_loc rfl (by first | rfl | omega | (simp; done) | (simp; omega)) | exact eq_bool rfl (by simp_all)) ?_ | exact all_nil)) rfl rfl), ?_⟩
  rintro σ k ⟨i, hi, rfl, rfl⟩
  refine ⟨_, Weak.refl _, ?_⟩
  (conv => whnf)
  (split <;> rename_i h <;> (try simp only [decide_eq_true_eq, decide_eq_false_iff_not, Bool.not_eq_true', Bool.not_eq_false', Bool.not_eq_true, Bool.not_eq_false, List.length_map] at h) <;> conv => whnf)
  · have hlt : i < x.files.length := by omega
    have h1 := usedN_take_succ hlt
    have h2 := usedN_take_le x.files (i + 1)
    refine ⟨i, rfl, _, at_map hlt, ?_⟩; (conv => whnf)
    refine ⟨_, _, long_c x.files[i].text, (by repeat' (first | exact lends_nil | exact lend_dead | apply lends_cons | apply lend_agg | apply lend_one | exact all2_nil | apply all2_cons | exact la_lit rfl | exact la_int (by first | rfl | omega) | exact la_row rfl rfl | exact la_loc rfl rfl rfl (by first | rfl | simp [mkL_length]) (by first | rfl | simp) | exact la_nil rfl | apply la_fn rfl | exact lend_same rfl rfl | exact lend_bor rfl rfl)), ?_⟩; (conv => whnf)
    refine ⟨((usedN (x.files.take (i + 1)) : Nat) : Int), by rw [← wrap64_id] <;> omega, ?_⟩; (conv => whnf)
    (refine ⟨((i + 1 : Nat) : Int), by rw [← wrap64_id] <;> omega, ?_⟩; conv => whnf)
    exact lg_back (i + 1) (by omega) (by (try dsimp only); omega) (weak_of (by repeat (first | refine all_cons (by first | rfl | exact eq_int rfl (by first | rfl | omega | (simp; done) | (simp; omega)) | exact eq_loc rfl (by first | rfl | omega | (simp; done) | (simp; omega)) | exact eq_bool rfl (by simp_all)) ?_ | exact all_nil)) (by repeat (first | refine all_cons (by first | rfl | exact eq_int rfl (by first | rfl | omega | (simp; done) | (simp; omega)) | exact eq_loc rfl (by first | rfl | omega | (simp; done) | (simp; omega)) | exact eq_bool rfl (by simp_all)) ?_ | exact all_nil)) rfl rfl)
  · have : i = x.files.length := by omega
    subst this
    exact ⟨close_int (by simp), trivial⟩
theorem usedSpec_c (x : DDrive) (hx : x.ok) (hu : usedN x.files ≤ 1000000000000) : Fun1 Tryz.prog 52 [.agg x.enc] (.one (.lit (.int .i64 (usedN x.files : Nat)))) := by
  obtain ⟨⟨hl, hf⟩, hr⟩ := hx
  refine fun1_of_vc tb_ok mix (fn := Tryz.f52) Tryz.func52 rfl (by kernel_rfl) (by kernel_rfl) (by simp [Tryz.f52]) (by rfl) ?_
  (conv => whnf)
  refine ⟨LG (fun i : Nat => i ≤ x.files.length) (fun i => x.files.length - i) (fun i => AS.of [(1, .one (.ptr 16 0)), (3, .one (.lit (.int .i64 (usedN (x.files.take i) : Nat)))), (4, .one (.lit (.int .i64 (i : Nat))))] [(16, .var x.enc)]), lg_init 0 (by omega) (weak_of (by repeat (first | refine all_cons (by first | rfl | exact eq_int rfl (by first | rfl | omega | (simp; done) | (simp; omega)) | exact eq_loc rfl (by first | rfl | omega | (simp; done) | (simp; omega)) | exact eq_bool rfl (by simp_all)) ?_ | exact all_nil)) (by repeat (first | refine all_cons (by first | rfl | exact eq_int rfl (by first | rfl | omega | (simp; done) | (simp; omega)) | exact eq_loc rfl (by first | rfl | omega | (simp; done) | (simp; omega)) | exact eq_bool rfl (by simp_all)) ?_ | exact all_nil)) rfl rfl), ?_⟩
  rintro σ k ⟨i, hi, rfl, rfl⟩
  refine ⟨_, Weak.refl _, ?_⟩
  (conv => whnf)
  (split <;> rename_i h <;> (try simp only [decide_eq_true_eq, decide_eq_false_iff_not, Bool.not_eq_true', Bool.not_eq_false', Bool.not_eq_true, Bool.not_eq_false, List.length_map] at h) <;> conv => whnf)
  · have hlt : i < x.files.length := by omega
    have h1 := usedN_take_succ hlt
    have h2 := usedN_take_le x.files (i + 1)
    refine ⟨i, rfl, _, at_map hlt, ?_⟩; (conv => whnf)
    refine ⟨((usedN (x.files.take (i + 1)) : Nat) : Int), by rw [← wrap64_id] <;> omega, ?_⟩; (conv => whnf)
    (refine ⟨((i + 1 : Nat) : Int), by rw [← wrap64_id] <;> omega, ?_⟩; conv => whnf)
    exact lg_back (i + 1) (by omega) (by (try dsimp only); omega) (weak_of (by repeat (first | refine all_cons (by first | rfl | exact eq_int rfl (by first | rfl | omega | (simp; done) | (simp; omega)) | exact eq_loc rfl (by first | rfl | omega | (simp; done) | (simp; omega)) | exact eq_bool rfl (by simp_all)) ?_ | exact all_nil)) (by repeat (first | refine all_cons (by first | rfl | exact eq_int rfl (by first | rfl | omega | (simp; done) | (simp; omega)) | exact eq_loc rfl (by first | rfl | omega | (simp; done) | (simp; omega)) | exact eq_bool rfl (by simp_all)) ?_ | exact all_nil)) rfl rfl)
  · have : i = x.files.length := by omega
    subst this
    exact ⟨close_int (by simp), trivial⟩
theorem driveSpec_c (x : DDrive) (hx : x.ok) (hu : usedN x.files ≤ 1000000000000) : Fun1 Tryz.prog 30 [.agg x.enc] (.one (.lit (.bool (driveOk x)))) := by
  have hx' := hx
  obtain ⟨⟨hl, hf⟩, hr⟩ := hx
  refine fun1_of_vc tb_ok mix (fn := Tryz.f30) Tryz.func30 rfl (by kernel_rfl) (by kernel_rfl) (by simp [Tryz.f30]) (by rfl) ?_
  (conv => whnf)
  (repeat' (split <;> rename_i hb <;> (try simp only [decide_eq_true_eq, decide_eq_false_iff_not, Bool.not_eq_true', Bool.not_eq_false', Bool.not_eq_true, Bool.not_eq_false, List.length_map] at hb) <;> conv => whnf))
  · exact ⟨close_bool (by simp [driveOk]; omega), trivial⟩
  · exact ⟨close_bool (by simp [driveOk]; omega), trivial⟩
  · exact ⟨close_bool (by simp [driveOk]; omega), trivial⟩
  refine ⟨LG (fun i : Nat => i ≤ x.files.length ∧ ∀ j, j < i → fOk x.files j = true) (fun i => x.files.length - i) (fun i => AS.of [(1, .one (.ptr 16 0)), (3, .one (.lit (.int .i64 (i : Nat))))] [(16, .var x.enc)]), lg_init 0 ⟨by omega, fun j h => by omega⟩ (weak_of (by repeat (first | refine all_cons (by first | rfl | exact eq_int rfl (by first | rfl | omega | (simp; done) | (simp; omega)) | exact eq_loc rfl (by first | rfl | omega | (simp; done) | (simp; omega)) | exact eq_bool rfl (by simp_all)) ?_ | exact all_nil)) (by repeat (first | refine all_cons (by first | rfl | exact eq_int rfl (by first | rfl | omega | (simp; done) | (simp; omega)) | exact eq_loc rfl (by first | rfl | omega | (simp; done) | (simp; omega)) | exact eq_bool rfl (by simp_all)) ?_ | exact all_nil)) rfl rfl), ?_⟩
  rintro σ k ⟨i, ⟨hi, hc⟩, rfl, rfl⟩
  refine ⟨_, Weak.refl _, ?_⟩
  (conv => whnf)
  (split <;> rename_i h <;> (try simp only [decide_eq_true_eq, decide_eq_false_iff_not, Bool.not_eq_true', Bool.not_eq_false', Bool.not_eq_true, Bool.not_eq_false, List.length_map] at h) <;> conv => whnf)
  · have hlt : i < x.files.length := by omega
    have hfi := hf _ (List.getElem_mem hlt)
    unfold DStored.ok inI at hfi
    refine ⟨i, rfl, _, at_map hlt, ?_⟩; (conv => whnf)
    refine ⟨_, _, nameSpec_c x.files[i].name hfi.1, (by repeat' (first | exact lends_nil | exact lend_dead | apply lends_cons | apply lend_agg | apply lend_one | exact all2_nil | apply all2_cons | exact la_lit rfl | exact la_int (by first | rfl | omega) | exact la_row rfl rfl | exact la_loc rfl rfl rfl (by first | rfl | simp [mkL_length]) (by first | rfl | simp) | exact la_nil rfl | apply la_fn rfl | exact lend_same rfl rfl | exact lend_bor rfl rfl)), ?_⟩; (conv => whnf)
    (split <;> rename_i h1 <;> (try simp only [decide_eq_true_eq, decide_eq_false_iff_not, Bool.not_eq_true', Bool.not_eq_false', Bool.not_eq_true, Bool.not_eq_false, List.length_map] at h1) <;> conv => whnf)
    · exact ⟨close_bool (driveOk_ff hlt (fOk_f hlt (by rw [h1]; simp))), trivial⟩
    (split <;> rename_i h2 <;> (try simp only [decide_eq_true_eq, decide_eq_false_iff_not, Bool.not_eq_true', Bool.not_eq_false', Bool.not_eq_true, Bool.not_eq_false, List.length_map] at h2) <;> conv => whnf)
    · refine ⟨((i - 1 : Nat) : Int), by rw [← wrap64_id] <;> omega, ?_⟩; (conv => whnf)
      refine ⟨i - 1, rfl, _, at_map (by omega), ?_⟩; (conv => whnf)
      (repeat' (split <;> rename_i hb <;> (try simp only [decide_eq_true_eq, decide_eq_false_iff_not, Bool.not_eq_true', Bool.not_eq_false', Bool.not_eq_true, Bool.not_eq_false, List.length_map] at hb) <;> conv => whnf))
      all_goals first
        | exact ⟨close_bool (driveOk_ff hlt (fOk_f hlt (by rintro ⟨q1, q2, q3, q4, q5⟩; first | omega | (rcases q2 with q2 | q2; omega; simp_all)))), trivial⟩
        | ((refine ⟨((i + 1 : Nat) : Int), by rw [← wrap64_id] <;> omega, ?_⟩; conv => whnf); exact lg_back (i + 1) ⟨by omega, fun j hj => by
            by_cases e : j = i
            · subst e; exact fOk_t hlt ⟨h1, by first | (left; omega) | (right; assumption), by omega, by omega, by omega⟩
            · exact hc j (by omega)⟩ (by (try dsimp only); omega) (weak_of (by repeat (first | refine all_cons (by first | rfl | exact eq_int rfl (by first | rfl | omega | (simp; done) | (simp; omega)) | exact eq_loc rfl (by first | rfl | omega | (simp; done) | (simp; omega)) | exact eq_bool rfl (by simp_all)) ?_ | exact all_nil)) (by repeat (first | refine all_cons (by first | rfl | exact eq_int rfl (by first | rfl | omega | (simp; done) | (simp; omega)) | exact eq_loc rfl (by first | rfl | omega | (simp; done) | (simp; omega)) | exact eq_bool rfl (by simp_all)) ?_ | exact all_nil)) rfl rfl))
    · (repeat' (split <;> rename_i hb <;> (try simp only [decide_eq_true_eq, decide_eq_false_iff_not, Bool.not_eq_true', Bool.not_eq_false', Bool.not_eq_true, Bool.not_eq_false, List.length_map] at hb) <;> conv => whnf))
      all_goals first
        | exact ⟨close_bool (driveOk_ff hlt (fOk_f hlt (by rintro ⟨q1, q2, q3, q4, q5⟩; omega))), trivial⟩
        | ((refine ⟨((i + 1 : Nat) : Int), by rw [← wrap64_id] <;> omega, ?_⟩; conv => whnf); exact lg_back (i + 1) ⟨by omega, fun j hj => by
            by_cases e : j = i
            · subst e; exact fOk_t hlt ⟨h1, by left; omega, by omega, by omega, by omega⟩
            · exact hc j (by omega)⟩ (by (try dsimp only); omega) (weak_of (by repeat (first | refine all_cons (by first | rfl | exact eq_int rfl (by first | rfl | omega | (simp; done) | (simp; omega)) | exact eq_loc rfl (by first | rfl | omega | (simp; done) | (simp; omega)) | exact eq_bool rfl (by simp_all)) ?_ | exact all_nil)) (by repeat (first | refine all_cons (by first | rfl | exact eq_int rfl (by first | rfl | omega | (simp; done) | (simp; omega)) | exact eq_loc rfl (by first | rfl | omega | (simp; done) | (simp; omega)) | exact eq_bool rfl (by simp_all)) ?_ | exact all_nil)) rfl rfl))
  · have : i = x.files.length := by omega
    subst this
    refine ⟨_, _, usedSpec_c x hx' hu, (by repeat' (first | exact lends_nil | exact lend_dead | apply lends_cons | apply lend_agg | apply lend_one | exact all2_nil | apply all2_cons | exact la_lit rfl | exact la_int (by first | rfl | omega) | exact la_row rfl rfl | exact la_loc rfl rfl rfl (by first | rfl | simp [mkL_length]) (by first | rfl | simp) | exact la_nil rfl | apply la_fn rfl | exact lend_same rfl rfl | exact lend_bor rfl rfl)), ?_⟩; (conv => whnf)
    exact ⟨close_bool (driveOk_end (by omega) (by omega) (by omega) hc), trivial⟩
end Go.Proofs.YtdbnppipgblajaaGreatDoor
namespace Go.Proofs.YtdbnppipgblajaaGreatDoor
open Go.RowKit
set_option linter.unusedSimpArgs false
set_option linter.unusedVariables false
/-- A function that only reckons on two values. -/
theorem fun1_of_calls2 {P : Program} {f : FuncId} {a b v : Value} (hc : Callable P f) (hv : v.oneCell' = true) (h : ∀ w, Calls P f #[a, b] w fun e w' => e = .returned v ∧ w = w') : Fun1 P f [.one (.lit a), .one (.lit b)] (.one (.lit v)) := by
  refine ⟨hc, by simp [T.nb, AV.nb], fun w I vs hI _ hargs => ?_⟩
  obtain ⟨vs⟩ := vs
  match vs, hargs with
  | [x, y], hargs =>
    have hx := hargs.1.1
    have hy := hargs.2.1.1
    cases hx; cases hy
    refine (h w).mono ?_
    rintro e w' ⟨rfl, rfl⟩
    exact ⟨v, fun _ => False, rfl, ⟨.plain rfl (.lit v) (fun _ h => h), hv⟩, fun _ h => h.elim, Bel.refl _ _⟩
set_option maxHeartbeats 1000000 in
set_option maxRecDepth 100000 in
theorem bytealgCompare_c (a b : ByteArray) (w : World) :
    Calls Tryz.prog 126 #[.string a, .string b] w fun e w' => e = .returned (.int .i64 (Lib.compareBytes a.data.toList b.data.toList)) ∧ w = w' := by
  go_enter Tryz.func126, Tryz.ntmps126
  go_wp2
  rw [run_callFunc_extern Tryz.func129 (by kernel_rfl) (by kernel_rfl) (by kernel_rfl) (e := Extern.BytealgCompare.compare) (by kernel_rfl), Lib.run_compareString]
  simp only [Result.andThen]
  rw [Oper.upon_value]
  go_wp2
  go_ret
  exact ⟨rfl, rfl⟩
theorem bytealgCmp_c (a b : ByteArray) : Fun1 Tryz.prog 126 [.one (.lit (.string a)), .one (.lit (.string b))] (.one (.lit (.int .i64 (cmpB a b)))) :=
  fun1_of_calls2 ⟨_, Tryz.func126, rfl, by kernel_rfl⟩ rfl (bytealgCompare_c a b)
set_option maxRecDepth 100000
theorem compare_c (a b : ByteArray) : Fun1 Tryz.prog 117 [.one (.lit (.string a)), .one (.lit (.string b))] (.one (.lit (.int .i64 (cmpB a b)))) := by
  refine fun1_of_vc tb_ok mix (fn := Tryz.f117) Tryz.func117 rfl (by kernel_rfl) (by kernel_rfl) (by simp [Tryz.f117]) (by rfl) ?_
  (conv => whnf)
  refine ⟨_, _, bytealgCmp_c a b, (by repeat' (first | exact lends_nil | exact lend_dead | apply lends_cons | apply lend_agg | apply lend_one | exact all2_nil | apply all2_cons | exact la_lit rfl | exact la_int (by first | rfl | omega) | exact la_row rfl rfl | exact la_loc rfl rfl rfl (by first | rfl | simp [mkL_length]) (by first | rfl | simp) | exact la_nil rfl | apply la_fn rfl | exact lend_same rfl rfl | exact lend_bor rfl rfl)), ?_⟩; (conv => whnf)
  exact (by repeat' (first | exact trivial | exact close_int rfl | exact close_str rfl | exact close_bool rfl | exact close_int (by omega) | exact close_row rfl rfl (by first | rfl | simp) (by first | rfl | simp) | exact close_nil (by first | rfl | simp) | exact rfl | apply And.intro | apply closeTs_cons rfl))
end Go.Proofs.YtdbnppipgblajaaGreatDoor
namespace Go.Proofs.YtdbnppipgblajaaGreatDoor
open Go.RowKit
set_option linter.unusedSimpArgs false
set_option linter.unusedVariables false
set_option maxRecDepth 100000
theorem driveImpl_c (x : DDrive) (hx : x.ok) (hu : usedN x.files ≤ 1000000000000) : Fun1 Tryz.prog 40 [.agg x.enc] (.one (.lit (.bool (driveOk x)))) := by
  have hx' := hx
  obtain ⟨⟨hl, hf⟩, hr⟩ := hx
  refine fun1_of_vc tb_ok mix (fn := Tryz.f40) Tryz.func40 rfl (by kernel_rfl) (by kernel_rfl) (by simp [Tryz.f40]) (by rfl) ?_
  (conv => whnf)
  (split <;> rename_i h0 <;> (try simp only [decide_eq_true_eq, decide_eq_false_iff_not, Bool.not_eq_true', Bool.not_eq_false', Bool.not_eq_true, Bool.not_eq_false, List.length_map] at h0) <;> conv => whnf)
  · exact ⟨close_bool (by simp [driveOk]; omega), trivial⟩
  refine ⟨_, _, within_c x.room 0 100000, (by repeat' (first | exact lends_nil | exact lend_dead | apply lends_cons | apply lend_agg | apply lend_one | exact all2_nil | apply all2_cons | exact la_lit rfl | exact la_int (by first | rfl | omega) | exact la_row rfl rfl | exact la_loc rfl rfl rfl (by first | rfl | simp [mkL_length]) (by first | rfl | simp) | exact la_nil rfl | apply la_fn rfl | exact lend_same rfl rfl | exact lend_bor rfl rfl)), ?_⟩; (conv => whnf)
  (split <;> rename_i h9 <;> (try simp only [decide_eq_true_eq, decide_eq_false_iff_not, Bool.not_eq_true', Bool.not_eq_false', Bool.not_eq_true, Bool.not_eq_false, List.length_map] at h9) <;> conv => whnf)
  · exact ⟨close_bool (by simp at h9; simp [driveOk]; omega), trivial⟩
  simp only [Bool.and_eq_true, decide_eq_true_eq] at h9
  refine ⟨LG (fun i : Nat => i ≤ x.files.length ∧ ∀ j, j < i → fOk x.files j = true) (fun i => x.files.length - i) (fun i => AS.of [(1, .one (.ptr 16 0)), (16, .one (.row false 3 (x.files.map DStored.enc))), (17, .one (.lit (.int .i64 (x.files.length : Nat)))), (18, .one (.lit (.int .i64 (i : Nat))))] [(16, .var x.enc)]), lg_init 0 ⟨by omega, fun j h => by omega⟩ (weak_of (by repeat (first | refine all_cons (by first | rfl | exact eq_int rfl (by first | rfl | omega | (simp; done) | (simp; omega)) | exact eq_loc rfl (by first | rfl | omega | (simp; done) | (simp; omega)) | exact eq_bool rfl (by simp_all)) ?_ | exact all_nil)) (by repeat (first | refine all_cons (by first | rfl | exact eq_int rfl (by first | rfl | omega | (simp; done) | (simp; omega)) | exact eq_loc rfl (by first | rfl | omega | (simp; done) | (simp; omega)) | exact eq_bool rfl (by simp_all)) ?_ | exact all_nil)) rfl rfl), ?_⟩
  rintro σ k ⟨i, ⟨hi, hc⟩, rfl, rfl⟩
  refine ⟨_, Weak.refl _, ?_⟩
  (conv => whnf)
  (split <;> rename_i h <;> (try simp only [decide_eq_true_eq, decide_eq_false_iff_not, Bool.not_eq_true', Bool.not_eq_false', Bool.not_eq_true, Bool.not_eq_false, List.length_map] at h) <;> conv => whnf)
  · have hlt : i < x.files.length := by omega
    have hfi := hf _ (List.getElem_mem hlt)
    unfold DStored.ok inI at hfi
    refine ⟨i, rfl, _, at_map hlt, ?_⟩; (conv => whnf)
    refine ⟨_, _, nameImpl_c x.files[i].name hfi.1, (by repeat' (first | exact lends_nil | exact lend_dead | apply lends_cons | apply lend_agg | apply lend_one | exact all2_nil | apply all2_cons | exact la_lit rfl | exact la_int (by first | rfl | omega) | exact la_row rfl rfl | exact la_loc rfl rfl rfl (by first | rfl | simp [mkL_length]) (by first | rfl | simp) | exact la_nil rfl | apply la_fn rfl | exact lend_same rfl rfl | exact lend_bor rfl rfl)), ?_⟩; (conv => whnf)
    (split <;> rename_i h1 <;> (try simp only [decide_eq_true_eq, decide_eq_false_iff_not, Bool.not_eq_true', Bool.not_eq_false', Bool.not_eq_true, Bool.not_eq_false, List.length_map] at h1) <;> conv => whnf)
    · exact ⟨close_bool (driveOk_ff hlt (fOk_f hlt (by rw [h1]; simp))), trivial⟩
    have hbad : ∀ {r : Bool}, r = false → ¬ (x.files[i].text.size ≤ 20000 ∧ 0 ≤ x.files[i].synced ∧ x.files[i].synced ≤ (x.files[i].text.size : Int)) → driveOk x = r := fun hr h => by rw [hr]; exact driveOk_ff hlt (fOk_f hlt fun q => h q.2.2)
    have hnext : (i = 0 ∨ sless (x.files[i - 1]'(by omega)).name x.files[i].name = true) → x.files[i].text.size ≤ 20000 ∧ 0 ≤ x.files[i].synced ∧ x.files[i].synced ≤ (x.files[i].text.size : Int) → ∀ j, j < i + 1 → fOk x.files j = true := fun h h' j hj => by
      by_cases e : j = i
      · subst e; exact fOk_t hlt ⟨h1, h, h'⟩
      · exact hc j (by omega)
    (split <;> rename_i h2 <;> (try simp only [decide_eq_true_eq, decide_eq_false_iff_not, Bool.not_eq_true', Bool.not_eq_false', Bool.not_eq_true, Bool.not_eq_false, List.length_map] at h2) <;> conv => whnf)
    · refine ⟨((i - 1 : Nat) : Int), by rw [← wrap64_id] <;> omega, ?_⟩; (conv => whnf)
      refine ⟨i - 1, rfl, _, at_map (by omega), ?_⟩; (conv => whnf)
      (split <;> rename_i h3 <;> (try simp only [decide_eq_true_eq, decide_eq_false_iff_not, Bool.not_eq_true', Bool.not_eq_false', Bool.not_eq_true, Bool.not_eq_false, List.length_map] at h3) <;> conv => whnf)
      · exact ⟨close_bool (driveOk_ff hlt (fOk_f hlt (by rintro ⟨q1, q2, q3⟩; rcases q2 with q2 | q2; omega; simp_all))), trivial⟩
      refine ⟨_, _, isLong_c x.files[i].text, (by repeat' (first | exact lends_nil | exact lend_dead | apply lends_cons | apply lend_agg | apply lend_one | exact all2_nil | apply all2_cons | exact la_lit rfl | exact la_int (by first | rfl | omega) | exact la_row rfl rfl | exact la_loc rfl rfl rfl (by first | rfl | simp [mkL_length]) (by first | rfl | simp) | exact la_nil rfl | apply la_fn rfl | exact lend_same rfl rfl | exact lend_bor rfl rfl)), ?_⟩; (conv => whnf)
      (split <;> rename_i h4 <;> (try simp only [decide_eq_true_eq, decide_eq_false_iff_not, Bool.not_eq_true', Bool.not_eq_false', Bool.not_eq_true, Bool.not_eq_false, List.length_map] at h4) <;> conv => whnf)
      · exact ⟨close_bool (hbad rfl (by omega)), trivial⟩
      refine ⟨_, _, long_c x.files[i].text, (by repeat' (first | exact lends_nil | exact lend_dead | apply lends_cons | apply lend_agg | apply lend_one | exact all2_nil | apply all2_cons | exact la_lit rfl | exact la_int (by first | rfl | omega) | exact la_row rfl rfl | exact la_loc rfl rfl rfl (by first | rfl | simp [mkL_length]) (by first | rfl | simp) | exact la_nil rfl | apply la_fn rfl | exact lend_same rfl rfl | exact lend_bor rfl rfl)), ?_⟩; (conv => whnf)
      refine ⟨_, _, within_c x.files[i].synced 0 x.files[i].text.size, (by repeat' (first | exact lends_nil | exact lend_dead | apply lends_cons | apply lend_agg | apply lend_one | exact all2_nil | apply all2_cons | exact la_lit rfl | exact la_int (by first | rfl | omega) | exact la_row rfl rfl | exact la_loc rfl rfl rfl (by first | rfl | simp [mkL_length]) (by first | rfl | simp) | exact la_nil rfl | apply la_fn rfl | exact lend_same rfl rfl | exact lend_bor rfl rfl)), ?_⟩; (conv => whnf)
      (split <;> rename_i h5 <;> (try simp only [decide_eq_true_eq, decide_eq_false_iff_not, Bool.not_eq_true', Bool.not_eq_false', Bool.not_eq_true, Bool.not_eq_false, List.length_map] at h5) <;> conv => whnf)
      · exact ⟨close_bool (hbad rfl (by simp at h5; omega)), trivial⟩
      simp only [Bool.and_eq_true, decide_eq_true_eq] at h5
      (refine ⟨((i + 1 : Nat) : Int), by rw [← wrap64_id] <;> omega, ?_⟩; conv => whnf)
      exact lg_back (i + 1) ⟨by omega, hnext (.inr h3) (by omega)⟩ (by (try dsimp only); omega) (weak_of (by repeat (first | refine all_cons (by first | rfl | exact eq_int rfl (by first | rfl | omega | (simp; done) | (simp; omega)) | exact eq_loc rfl (by first | rfl | omega | (simp; done) | (simp; omega)) | exact eq_bool rfl (by simp_all)) ?_ | exact all_nil)) (by repeat (first | refine all_cons (by first | rfl | exact eq_int rfl (by first | rfl | omega | (simp; done) | (simp; omega)) | exact eq_loc rfl (by first | rfl | omega | (simp; done) | (simp; omega)) | exact eq_bool rfl (by simp_all)) ?_ | exact all_nil)) rfl rfl)
    · refine ⟨_, _, isLong_c x.files[i].text, (by repeat' (first | exact lends_nil | exact lend_dead | apply lends_cons | apply lend_agg | apply lend_one | exact all2_nil | apply all2_cons | exact la_lit rfl | exact la_int (by first | rfl | omega) | exact la_row rfl rfl | exact la_loc rfl rfl rfl (by first | rfl | simp [mkL_length]) (by first | rfl | simp) | exact la_nil rfl | apply la_fn rfl | exact lend_same rfl rfl | exact lend_bor rfl rfl)), ?_⟩; (conv => whnf)
      (split <;> rename_i h4 <;> (try simp only [decide_eq_true_eq, decide_eq_false_iff_not, Bool.not_eq_true', Bool.not_eq_false', Bool.not_eq_true, Bool.not_eq_false, List.length_map] at h4) <;> conv => whnf)
      · exact ⟨close_bool (hbad rfl (by omega)), trivial⟩
      refine ⟨_, _, long_c x.files[i].text, (by repeat' (first | exact lends_nil | exact lend_dead | apply lends_cons | apply lend_agg | apply lend_one | exact all2_nil | apply all2_cons | exact la_lit rfl | exact la_int (by first | rfl | omega) | exact la_row rfl rfl | exact la_loc rfl rfl rfl (by first | rfl | simp [mkL_length]) (by first | rfl | simp) | exact la_nil rfl | apply la_fn rfl | exact lend_same rfl rfl | exact lend_bor rfl rfl)), ?_⟩; (conv => whnf)
      refine ⟨_, _, within_c x.files[i].synced 0 x.files[i].text.size, (by repeat' (first | exact lends_nil | exact lend_dead | apply lends_cons | apply lend_agg | apply lend_one | exact all2_nil | apply all2_cons | exact la_lit rfl | exact la_int (by first | rfl | omega) | exact la_row rfl rfl | exact la_loc rfl rfl rfl (by first | rfl | simp [mkL_length]) (by first | rfl | simp) | exact la_nil rfl | apply la_fn rfl | exact lend_same rfl rfl | exact lend_bor rfl rfl)), ?_⟩; (conv => whnf)
      (split <;> rename_i h5 <;> (try simp only [decide_eq_true_eq, decide_eq_false_iff_not, Bool.not_eq_true', Bool.not_eq_false', Bool.not_eq_true, Bool.not_eq_false, List.length_map] at h5) <;> conv => whnf)
      · exact ⟨close_bool (hbad rfl (by simp at h5; omega)), trivial⟩
      simp only [Bool.and_eq_true, decide_eq_true_eq] at h5
      (refine ⟨((i + 1 : Nat) : Int), by rw [← wrap64_id] <;> omega, ?_⟩; conv => whnf)
      exact lg_back (i + 1) ⟨by omega, hnext (.inl (by omega)) (by omega)⟩ (by (try dsimp only); omega) (weak_of (by repeat (first | refine all_cons (by first | rfl | exact eq_int rfl (by first | rfl | omega | (simp; done) | (simp; omega)) | exact eq_loc rfl (by first | rfl | omega | (simp; done) | (simp; omega)) | exact eq_bool rfl (by simp_all)) ?_ | exact all_nil)) (by repeat (first | refine all_cons (by first | rfl | exact eq_int rfl (by first | rfl | omega | (simp; done) | (simp; omega)) | exact eq_loc rfl (by first | rfl | omega | (simp; done) | (simp; omega)) | exact eq_bool rfl (by simp_all)) ?_ | exact all_nil)) rfl rfl)
  · have : i = x.files.length := by omega
    subst this
    refine ⟨_, _, usedImpl_c x hx' hu, (by repeat' (first | exact lends_nil | exact lend_dead | apply lends_cons | apply lend_agg | apply lend_one | exact all2_nil | apply all2_cons | exact la_lit rfl | exact la_int (by first | rfl | omega) | exact la_row rfl rfl | exact la_loc rfl rfl rfl (by first | rfl | simp [mkL_length]) (by first | rfl | simp) | exact la_nil rfl | apply la_fn rfl | exact lend_same rfl rfl | exact lend_bor rfl rfl)), ?_⟩; (conv => whnf)
    exact ⟨close_bool (driveOk_end (by omega) (by omega) (by omega) hc), trivial⟩
theorem find1_c (f : DStored) (name : ByteArray) : Fun1 Tryz.prog 116 [.agg f.enc, .one (.lit (.string name))] (.one (.lit (.int .i64 (cmpB f.name name)))) := by
  refine fun1_of_vc tb_ok mix (fn := Tryz.f116) Tryz.func116 rfl (by kernel_rfl) (by kernel_rfl) (by simp [Tryz.f116]) (by rfl) ?_
  (conv => whnf)
  refine ⟨_, _, compare_c f.name name, (by repeat' (first | exact lends_nil | exact lend_dead | apply lends_cons | apply lend_agg | apply lend_one | exact all2_nil | apply all2_cons | exact la_lit rfl | exact la_int (by first | rfl | omega) | exact la_row rfl rfl | exact la_loc rfl rfl rfl (by first | rfl | simp [mkL_length]) (by first | rfl | simp) | exact la_nil rfl | apply la_fn rfl | exact lend_same rfl rfl | exact lend_bor rfl rfl)), ?_⟩; (conv => whnf)
  exact (by repeat' (first | exact trivial | exact close_int rfl | exact close_str rfl | exact close_bool rfl | exact close_int (by omega) | exact close_row rfl rfl (by first | rfl | simp) (by first | rfl | simp) | exact close_nil (by first | rfl | simp) | exact rfl | apply And.intro | apply closeTs_cons rfl))
theorem bsearch_c (d : DDrive) (hd : driveOk d = true) (name : ByteArray) (hl : d.files.length ≤ 4294967296) : Fun1 Tryz.prog 115 [.one (.row true 3 (d.files.map DStored.enc)), .one (.lit (.string name)), .one (.fn 116 [])]
    (.tup [(false, [.lit (.int .i64 (findP d.files name : Nat))]), (false, [.lit (.bool (hasN d.files name))])]) := by
  refine fun1_of_vc tb_ok mix (fn := Tryz.f115) Tryz.func115 rfl (by kernel_rfl) (by kernel_rfl) (by simp [Tryz.f115]) (by rfl) ?_
  (conv => whnf)
  refine ⟨LG (fun p : Nat × Nat => p.1 ≤ p.2 ∧ p.2 ≤ d.files.length ∧ (∀ t (h : t < d.files.length), t < p.1 → cmpB d.files[t].name name < 0) ∧ ∀ t (h : t < d.files.length), p.2 ≤ t → 0 ≤ cmpB d.files[t].name name) (fun p => p.2 - p.1)
    (fun p => AS.of [(0, .one (.row true 3 (d.files.map DStored.enc))), (1, .one (.lit (.string name))), (2, .one (.fn 116 [])), (8, .one (.lit (.int .i64 (d.files.length : Nat)))), (9, .one (.lit (.int .i64 (p.1 : Nat)))), (10, .one (.lit (.int .i64 (p.2 : Nat))))] []),
    lg_init (0, d.files.length) ⟨by simp, by simp, fun t h h' => by simp at h', fun t h h' => by simp at h'; omega⟩ (weak_of (by repeat (first | refine all_cons (by first | rfl | exact eq_int rfl (by first | rfl | omega | (simp; done) | (simp; omega)) | exact eq_loc rfl (by first | rfl | omega | (simp; done) | (simp; omega)) | exact eq_bool rfl (by simp_all)) ?_ | exact all_nil)) (by repeat (first | refine all_cons (by first | rfl | exact eq_int rfl (by first | rfl | omega | (simp; done) | (simp; omega)) | exact eq_loc rfl (by first | rfl | omega | (simp; done) | (simp; omega)) | exact eq_bool rfl (by simp_all)) ?_ | exact all_nil)) rfl rfl), ?_⟩
  rintro σ k ⟨⟨i, j⟩, ⟨hij, hj, hlo, hhi⟩, rfl, rfl⟩
  simp only at hij hj hlo hhi
  refine ⟨_, Weak.refl _, ?_⟩
  (conv => whnf)
  (split <;> rename_i h <;> (try simp only [decide_eq_true_eq, decide_eq_false_iff_not, Bool.not_eq_true', Bool.not_eq_false', Bool.not_eq_true, Bool.not_eq_false, List.length_map] at h) <;> conv => whnf)
  · have hlt : i < j := by omega
    refine ⟨((i + j : Nat) : Int), by rw [← wrap64_id] <;> omega, ?_⟩; (conv => whnf)
    refine ⟨((i + j : Nat) : Int), wrap_id (by simp [IntKind.min, IntKind.signed]; omega) (by simp [IntKind.max, IntKind.signed, IntKind.bits]; omega), ?_⟩; (conv => whnf)
    refine ⟨by decide, (((i + j) / 2 : Nat) : Int), by simp [IntKind.bits, Int.fdiv_eq_ediv], ?_⟩; (conv => whnf)
    refine ⟨(((i + j) / 2 : Nat) : Int), by rw [← wrap64_id] <;> omega, ?_⟩; (conv => whnf)
    have hm : (i + j) / 2 < d.files.length := by omega
    refine ⟨(i + j) / 2, rfl, _, at_map hm, ?_⟩; (conv => whnf)
    refine ⟨_, _, find1_c d.files[(i + j) / 2] name, (by repeat' (first | exact lends_nil | exact lend_dead | apply lends_cons | apply lend_agg | apply lend_one | exact all2_nil | apply all2_cons | exact la_lit rfl | exact la_int (by first | rfl | omega) | exact la_row rfl rfl | exact la_loc rfl rfl rfl (by first | rfl | simp [mkL_length]) (by first | rfl | simp) | exact la_nil rfl | apply la_fn rfl | exact lend_same rfl rfl | exact lend_bor rfl rfl)), ?_⟩; (conv => whnf)
    have hmono : ∀ t (h : t < d.files.length), t < (i + j) / 2 → cmpB d.files[(i + j) / 2].name name ≤ 0 → cmpB d.files[t].name name < 0 := fun t h ht hle => by
      have h1 := sorted_of hd _ t ht hm
      rcases Int.lt_or_eq_of_le hle with h2 | h2
      · exact (cmpB_neg _ _).2 (bLt_trans h1 ((cmpB_neg _ _).1 h2))
      · rw [← (cmpB_zero _ _).1 h2]; exact (cmpB_neg _ _).2 h1
    have hmono2 : ∀ t (h : t < d.files.length), (i + j) / 2 < t → 0 ≤ cmpB d.files[(i + j) / 2].name name → 0 ≤ cmpB d.files[t].name name := fun t h ht hge => by
      have h1 := sorted_of hd t _ ht h
      by_cases hneg : cmpB d.files[t].name name < 0
      · have := (cmpB_neg _ _).2 (bLt_trans h1 ((cmpB_neg _ _).1 hneg)); omega
      · omega
    (split <;> rename_i h2 <;> (try simp only [decide_eq_true_eq, decide_eq_false_iff_not, Bool.not_eq_true', Bool.not_eq_false', Bool.not_eq_true, Bool.not_eq_false, List.length_map] at h2) <;> conv => whnf)
    · refine ⟨(((i + j) / 2 + 1 : Nat) : Int), by rw [← wrap64_id] <;> omega, ?_⟩; (conv => whnf)
      exact lg_back ((i + j) / 2 + 1, j) ⟨by simp; omega, hj, fun t h ht => by
        simp only at ht
        by_cases e : t = (i + j) / 2
        · subst e; exact h2
        · exact hmono t h (by omega) (by omega), hhi⟩ (by simp only; omega) (weak_of (by repeat (first | refine all_cons (by first | rfl | exact eq_int rfl (by first | rfl | omega | (simp; done) | (simp; omega)) | exact eq_loc rfl (by first | rfl | omega | (simp; done) | (simp; omega)) | exact eq_bool rfl (by simp_all)) ?_ | exact all_nil)) (by repeat (first | refine all_cons (by first | rfl | exact eq_int rfl (by first | rfl | omega | (simp; done) | (simp; omega)) | exact eq_loc rfl (by first | rfl | omega | (simp; done) | (simp; omega)) | exact eq_bool rfl (by simp_all)) ?_ | exact all_nil)) rfl rfl)
    · exact lg_back (i, (i + j) / 2) ⟨by simp; omega, by simp; omega, hlo, fun t h ht => by
        simp only at ht
        by_cases e : t = (i + j) / 2
        · subst e; omega
        · exact hmono2 t h (by omega) (by omega)⟩ (by simp only; omega) (weak_of (by repeat (first | refine all_cons (by first | rfl | exact eq_int rfl (by first | rfl | omega | (simp; done) | (simp; omega)) | exact eq_loc rfl (by first | rfl | omega | (simp; done) | (simp; omega)) | exact eq_bool rfl (by simp_all)) ?_ | exact all_nil)) (by repeat (first | refine all_cons (by first | rfl | exact eq_int rfl (by first | rfl | omega | (simp; done) | (simp; omega)) | exact eq_loc rfl (by first | rfl | omega | (simp; done) | (simp; omega)) | exact eq_bool rfl (by simp_all)) ?_ | exact all_nil)) rfl rfl)
  · have : i = j := by omega
    subst this
    have hP := findP_cut hj hlo hhi
    (split <;> rename_i h2 <;> (try simp only [decide_eq_true_eq, decide_eq_false_iff_not, Bool.not_eq_true', Bool.not_eq_false', Bool.not_eq_true, Bool.not_eq_false, List.length_map] at h2) <;> conv => whnf)
    · have hlt : i < d.files.length := by omega
      refine ⟨i, rfl, _, at_map hlt, ?_⟩; (conv => whnf)
      refine ⟨_, _, find1_c d.files[i] name, (by repeat' (first | exact lends_nil | exact lend_dead | apply lends_cons | apply lend_agg | apply lend_one | exact all2_nil | apply all2_cons | exact la_lit rfl | exact la_int (by first | rfl | omega) | exact la_row rfl rfl | exact la_loc rfl rfl rfl (by first | rfl | simp [mkL_length]) (by first | rfl | simp) | exact la_nil rfl | apply la_fn rfl | exact lend_same rfl rfl | exact lend_bor rfl rfl)), ?_⟩; (conv => whnf)
      rw [hP, hasN_cut hd hlt hlo hhi]
      exact (by repeat' (first | exact trivial | exact close_int rfl | exact close_str rfl | exact close_bool rfl | exact close_int (by omega) | exact close_row rfl rfl (by first | rfl | simp) (by first | rfl | simp) | exact close_nil (by first | rfl | simp) | exact rfl | apply And.intro | apply closeTs_cons rfl))
    · have e : i = d.files.length := by omega
      rw [hP, hasN_none (fun t h => hlo t h (by omega))]
      exact (by repeat' (first | exact trivial | exact close_int rfl | exact close_str rfl | exact close_bool rfl | exact close_int (by omega) | exact close_row rfl rfl (by first | rfl | simp) (by first | rfl | simp) | exact close_nil (by first | rfl | simp) | exact rfl | apply And.intro | apply closeTs_cons rfl))
theorem find_c (d : DDrive) (hd : driveOk d = true) (name : ByteArray) (hl : d.files.length ≤ 4294967296) : Fun1 Tryz.prog 97 [.agg d.enc, .one (.lit (.string name))]
    (.tup [(false, [.lit (.int .i64 (findP d.files name : Nat))]), (false, [.lit (.bool (hasN d.files name))])]) := by
  refine fun1_of_vc tb_ok mix (fn := Tryz.f97) Tryz.func97 rfl (by kernel_rfl) (by kernel_rfl) (by simp [Tryz.f97]) (by rfl) ?_
  (conv => whnf)
  refine ⟨_, _, bsearch_c d hd name hl, (by repeat' (first | exact lends_nil | exact lend_dead | apply lends_cons | apply lend_agg | apply lend_one | exact all2_nil | apply all2_cons | exact la_lit rfl | exact la_int (by first | rfl | omega) | exact la_row rfl rfl | exact la_loc rfl rfl rfl (by first | rfl | simp [mkL_length]) (by first | rfl | simp) | exact la_nil rfl | apply la_fn rfl | exact lend_same rfl rfl | exact lend_bor rfl rfl)), ?_⟩; (conv => whnf)
  exact (by repeat' (first | exact trivial | exact close_int rfl | exact close_str rfl | exact close_bool rfl | exact close_int (by omega) | exact close_row rfl rfl (by first | rfl | simp) (by first | rfl | simp) | exact close_nil (by first | rfl | simp) | exact rfl | apply And.intro | apply closeTs_cons rfl))
theorem l08Find_c (d : DDrive) (name : ByteArray) (hl : d.files.length ≤ 4294967296) : Fun1 Tryz.prog 57 [.agg d.enc, .one (.lit (.string name))] (.one (.lit (.int .i64 (findI d.files name)))) := by
  refine fun1_of_vc tb_ok mix (fn := Tryz.f57) Tryz.func57 rfl (by kernel_rfl) (by kernel_rfl) (by simp [Tryz.f57]) (by rfl) ?_
  (conv => whnf)
  refine ⟨LG (fun i : Nat => i ≤ d.files.length ∧ ∀ t (h : t < d.files.length), t < i → d.files[t].name ≠ name) (fun i => d.files.length - i) (fun i => AS.of [(1, .one (.lit (.string name))), (2, .one (.ptr 32 0)), (5, .one (.lit (.int .i64 (i : Nat))))] [(32, .var d.enc)]), lg_init 0 ⟨by omega, fun t h h' => by omega⟩ (weak_of (by repeat (first | refine all_cons (by first | rfl | exact eq_int rfl (by first | rfl | omega | (simp; done) | (simp; omega)) | exact eq_loc rfl (by first | rfl | omega | (simp; done) | (simp; omega)) | exact eq_bool rfl (by simp_all)) ?_ | exact all_nil)) (by repeat (first | refine all_cons (by first | rfl | exact eq_int rfl (by first | rfl | omega | (simp; done) | (simp; omega)) | exact eq_loc rfl (by first | rfl | omega | (simp; done) | (simp; omega)) | exact eq_bool rfl (by simp_all)) ?_ | exact all_nil)) rfl rfl), ?_⟩
  rintro σ k ⟨i, ⟨hi, hc⟩, rfl, rfl⟩
  refine ⟨_, Weak.refl _, ?_⟩
  (conv => whnf)
  (split <;> rename_i h <;> (try simp only [decide_eq_true_eq, decide_eq_false_iff_not, Bool.not_eq_true', Bool.not_eq_false', Bool.not_eq_true, Bool.not_eq_false, List.length_map] at h) <;> conv => whnf)
  · have hlt : i < d.files.length := by omega
    refine ⟨i, rfl, _, at_map hlt, ?_⟩; (conv => whnf)
    (split <;> rename_i h2 <;> (try simp only [decide_eq_true_eq, decide_eq_false_iff_not, Bool.not_eq_true', Bool.not_eq_false', Bool.not_eq_true, Bool.not_eq_false, List.length_map] at h2) <;> conv => whnf)
    · exact ⟨close_int (findI_at hlt hc h2), trivial⟩
    · (refine ⟨((i + 1 : Nat) : Int), by rw [← wrap64_id] <;> omega, ?_⟩; conv => whnf)
      exact lg_back (i + 1) ⟨by omega, fun t h ht => by
        by_cases e : t = i
        · subst e; exact h2
        · exact hc t h (by omega)⟩ (by (try dsimp only); omega) (weak_of (by repeat (first | refine all_cons (by first | rfl | exact eq_int rfl (by first | rfl | omega | (simp; done) | (simp; omega)) | exact eq_loc rfl (by first | rfl | omega | (simp; done) | (simp; omega)) | exact eq_bool rfl (by simp_all)) ?_ | exact all_nil)) (by repeat (first | refine all_cons (by first | rfl | exact eq_int rfl (by first | rfl | omega | (simp; done) | (simp; omega)) | exact eq_loc rfl (by first | rfl | omega | (simp; done) | (simp; omega)) | exact eq_bool rfl (by simp_all)) ?_ | exact all_nil)) rfl rfl)
  · exact ⟨close_int (findI_none (fun t h => hc t h (by omega))).1, trivial⟩
end Go.Proofs.YtdbnppipgblajaaGreatDoor
namespace Go.Proofs.YtdbnppipgblajaaGreatDoor
open Go.RowKit
set_option linter.unusedSimpArgs false
set_option linter.unusedVariables false
set_option maxRecDepth 100000
set_option maxHeartbeats 4000000
theorem laid_map {α : Type} {f : α → List AV} {s : Nat} (h : ∀ x, (f x).map AV.bor = f x) (l : List α) : l.map f = laid true s (l.map f) := by
  simp only [laid, if_true, List.map_map]
  exact List.map_congr_left fun x _ => (h x).symm
theorem at_map0 {α β : Type} {f : α → β} {l : List α} {i : Nat} (h : i < l.length) : (l.map f)[0 + i]? = some (f l[i]) := by rw [Nat.zero_add]; exact at_map h
end Go.Proofs.YtdbnppipgblajaaGreatDoor
namespace Go.Proofs.YtdbnppipgblajaaGreatDoor
open Go.RowKit
set_option linter.unusedSimpArgs false
set_option linter.unusedVariables false
theorem u32_lt (x : UInt32) : x.toNat < 4294967296 := x.toNat_lt
theorem u32_wrap (x : UInt32) : IntKind.u32.wrap (x.toNat : Int) = (x.toNat : Int) := by
  rw [IntKind.wrap_u32]; have := u32_lt x; omega
theorem u32_add (x y : UInt32) : IntKind.u32.wrap ((x.toNat : Int) + (y.toNat : Int)) = ((x + y).toNat : Int) := by
  rw [IntKind.wrap_u32, UInt32.toNat_add]; omega
theorem ofInt_nat (n : Nat) {k : Nat} (h : n < 2 ^ k) : (BitVec.ofInt k (n : Int)).toNat = n := by
  rw [BitVec.ofInt_natCast, BitVec.toNat_ofNat]; exact Nat.mod_eq_of_lt h
theorem u32_xor (x y : UInt32) : bits .xor .u32 (x.toNat : Int) (y.toNat : Int) = ((x ^^^ y).toNat : Int) := by
  have hx := u32_lt x
  have hy := u32_lt y
  show IntKind.u32.wrap ((BitVec.ofInt 32 (x.toNat : Int) ^^^ BitVec.ofInt 32 (y.toNat : Int)).toNat : Int) = _
  rw [BitVec.toNat_xor, ofInt_nat _ hx, ofInt_nat _ hy, UInt32.toNat_xor, IntKind.wrap_u32]
  have := Nat.xor_lt_two_pow (n := 32) hx hy
  omega
theorem u32_or (x y : UInt32) : bits .or .u32 (x.toNat : Int) (y.toNat : Int) = ((x ||| y).toNat : Int) := by
  rw [(bits_nat .u32 32 (by decide) (fun n h h' => by rw [IntKind.wrap_u32]; omega) x.toNat y.toNat (u32_lt x) (u32_lt y)).2, UInt32.toNat_or]
theorem u32_and (x y : UInt32) : bits .and .u32 (x.toNat : Int) (y.toNat : Int) = ((x &&& y).toNat : Int) := by
  rw [(bits_nat .u32 32 (by decide) (fun n h h' => by rw [IntKind.wrap_u32]; omega) x.toNat y.toNat (u32_lt x) (u32_lt y)).1, UInt32.toNat_and]
theorem u32_not (x : UInt32) : bits .xor .u32 (IntKind.u32.max) (x.toNat : Int) = ((~~~x).toNat : Int) := by
  have e : IntKind.u32.max = ((4294967295 : UInt32).toNat : Int) := by decide
  rw [e, u32_xor]
  congr 2
theorem pow2_cast (k : Nat) : (2 : Int) ^ k = ((2 ^ k : Nat) : Int) := (Int.natCast_pow 2 k).symm
theorem u32_k {k : Nat} (hk : k < 32) : (UInt32.ofNat k).toNat % 32 = k := by rw [UInt32.toNat_ofNat']; omega
theorem u32_shr (x : UInt32) (k : Nat) (hk : k < 32) : (x.toNat : Int).fdiv (2 ^ k) = ((x >>> UInt32.ofNat k).toNat : Int) := by
  rw [UInt32.toNat_shiftRight, u32_k hk, Nat.shiftRight_eq_div_pow, pow2_cast, Int.fdiv_eq_ediv_of_nonneg _ (Int.natCast_nonneg _)]
  exact (Int.natCast_ediv _ _).symm
theorem u32_shl (x : UInt32) (k : Nat) (hk : k < 32) : IntKind.u32.wrap ((x.toNat : Int) * 2 ^ k) = ((x <<< UInt32.ofNat k).toNat : Int) := by
  rw [UInt32.toNat_shiftLeft, u32_k hk, Nat.shiftLeft_eq, IntKind.wrap_u32, pow2_cast]
  generalize 2 ^ k = q
  rw [← Int.natCast_mul]
  omega
theorem u8_u32 (x : UInt8) : IntKind.u32.wrap (x.toNat : Int) = (x.toUInt32.toNat : Int) := by
  rw [IntKind.wrap_u32, UInt8.toNat_toUInt32]
  have := x.toNat_lt
  omega
def turnW (x : UInt32) (k : Nat) : UInt32 := (x >>> UInt32.ofNat k) ||| (x <<< UInt32.ofNat (32 - k))
def sg0 (x : UInt32) : UInt32 := turnW x 7 ^^^ turnW x 18 ^^^ (x >>> UInt32.ofNat 3)
def sg1 (x : UInt32) : UInt32 := turnW x 17 ^^^ turnW x 19 ^^^ (x >>> UInt32.ofNat 10)
def bs0 (x : UInt32) : UInt32 := turnW x 2 ^^^ turnW x 13 ^^^ turnW x 22
def bs1 (x : UInt32) : UInt32 := turnW x 6 ^^^ turnW x 11 ^^^ turnW x 25
def chW (e f g : UInt32) : UInt32 := (e &&& f) ^^^ (~~~e &&& g)
def majW (a b c : UInt32) : UInt32 := (a &&& b) ^^^ (a &&& c) ^^^ (b &&& c)
def byteW (t : ByteArray) (i : Nat) : UInt32 := (t.data.toList.getD i 0).toUInt32
/-- Four bytes as a word. -/
def be32 (t : ByteArray) (i : Nat) : UInt32 := (byteW t i <<< UInt32.ofNat 24) ||| (byteW t (i + 1) <<< UInt32.ofNat 16) ||| (byteW t (i + 2) <<< UInt32.ofNat 8) ||| byteW t (i + 3)
/-- The words of a block. -/
def schedN (w : List UInt32) (t : ByteArray) (i : Nat) : UInt32 :=
  if i < 16 then be32 t (4 * i) else w.getD (i - 16) 0 + sg0 (w.getD (i - 15) 0) + w.getD (i - 7) 0 + sg1 (w.getD (i - 2) 0)
def sched (t : ByteArray) : Nat → List UInt32
  | 0 => []
  | i + 1 => sched t i ++ [schedN (sched t i) t i]
theorem sched_len (t : ByteArray) : ∀ n, (sched t n).length = n
  | 0 => rfl
  | n + 1 => by simp [sched, sched_len t n]
def keysL : List UInt32 := [
    0x428a2f98, 0x71374491, 0xb5c0fbcf, 0xe9b5dba5, 0x3956c25b, 0x59f111f1, 0x923f82a4, 0xab1c5ed5,
    0xd807aa98, 0x12835b01, 0x243185be, 0x550c7dc3, 0x72be5d74, 0x80deb1fe, 0x9bdc06a7, 0xc19bf174,
    0xe49b69c1, 0xefbe4786, 0x0fc19dc6, 0x240ca1cc, 0x2de92c6f, 0x4a7484aa, 0x5cb0a9dc, 0x76f988da,
    0x983e5152, 0xa831c66d, 0xb00327c8, 0xbf597fc7, 0xc6e00bf3, 0xd5a79147, 0x06ca6351, 0x14292967,
    0x27b70a85, 0x2e1b2138, 0x4d2c6dfc, 0x53380d13, 0x650a7354, 0x766a0abb, 0x81c2c92e, 0x92722c85,
    0xa2bfe8a1, 0xa81a664b, 0xc24b8b70, 0xc76c51a3, 0xd192e819, 0xd6990624, 0xf40e3585, 0x106aa070,
    0x19a4c116, 0x1e376c08, 0x2748774c, 0x34b0bcb5, 0x391c0cb3, 0x4ed8aa4a, 0x5b9cca4f, 0x682e6ff3,
    0x748f82ee, 0x78a5636f, 0x84c87814, 0x8cc70208, 0x90befffa, 0xa4506ceb, 0xbef9a3f7, 0xc67178f2]
def startL : List UInt32 := [0x6a09e667, 0xbb67ae85, 0x3c6ef372, 0xa54ff53a, 0x510e527f, 0x9b05688c, 0x1f83d9ab, 0x5be0cd19]
structure S8 where
  a : UInt32
  b : UInt32
  c : UInt32
  d : UInt32
  e : UInt32
  f : UInt32
  g : UInt32
  h : UInt32
def S8.of (l : List UInt32) : S8 := ⟨l.getD 0 0, l.getD 1 0, l.getD 2 0, l.getD 3 0, l.getD 4 0, l.getD 5 0, l.getD 6 0, l.getD 7 0⟩
def S8.list (s : S8) : List UInt32 := [s.a, s.b, s.c, s.d, s.e, s.f, s.g, s.h]
def rt1 (s : S8) (k w : UInt32) : UInt32 := s.h + bs1 s.e + chW s.e s.f s.g + k + w
def rt2 (s : S8) : UInt32 := bs0 s.a + majW s.a s.b s.c
def rnd (s : S8) (k w : UInt32) : S8 := ⟨rt1 s k w + rt2 s, s.a, s.b, s.c, s.d + rt1 s k w, s.e, s.f, s.g⟩
def rounds (W : List UInt32) (s : S8) : Nat → S8
  | 0 => s
  | i + 1 => rnd (rounds W s i) (keysL.getD i 0) (W.getD i 0)
def addW (st v : List UInt32) : List UInt32 := List.zipWith (· + ·) st v
/-- A state behind a block. -/
def block (st : List UInt32) (t : ByteArray) : List UInt32 := addW st (rounds (sched t 64) (S8.of st) 64).list
theorem block_len {st : List UInt32} (h : st.length = 8) (t : ByteArray) : (block st t).length = 8 := by
  simp [block, addW, S8.list, h]
def blocksN (st : List UInt32) (t : ByteArray) : Nat → List UInt32
  | 0 => st
  | n + 1 => block (blocksN st t n) (t.extract (64 * n) (64 * n + 64))
theorem blocksN_len {st : List UInt32} (h : st.length = 8) (t : ByteArray) : ∀ n, (blocksN st t n).length = 8
  | 0 => h
  | n + 1 => block_len (blocksN_len h t n) _
structure DHash where
  state : List UInt32
  rest : ByteArray
  size : Int
def DHash.enc (h : DHash) : List AV := [.row true 1 (h.state.map fun x => eInt (x.toNat : Int)), .lit (.string h.rest), .lit (.int .i64 h.size)]
def moreF (h : DHash) (t : ByteArray) : DHash :=
  ⟨blocksN h.state (h.rest ++ t) ((h.rest ++ t).size / 64), (h.rest ++ t).extract (64 * ((h.rest ++ t).size / 64)) (h.rest ++ t).size, h.size + (t.size : Int)⟩
def zerosL (n : Nat) : List UInt8 := List.replicate n 0
/-- The bytes of a number of 64 bits. -/
def be64 (n : Nat) : List UInt8 := [56, 48, 40, 32, 24, 16, 8, 0].map fun k => UInt8.ofNat (n >>> k)
def padL (r n : Nat) : List UInt8 := 128 :: zerosL ((119 - r) % 64) ++ be64 (8 * n)
def wordB (x : UInt32) : List UInt8 := [24, 16, 8, 0].map fun k => UInt8.ofNat (x.toNat >>> k)
def outL (l : List UInt32) : List UInt8 := (l.map wordB).flatten
def bytesOf (l : List UInt8) : ByteArray := ⟨l.toArray⟩
def endF (h : DHash) : ByteArray := bytesOf (outL (moreF h (bytesOf (padL h.rest.size h.size.toNat))).state)
def digF (t : ByteArray) : ByteArray := endF (moreF ⟨startL, .empty, 0⟩ t)
theorem flat_len (l : List (List UInt8)) (k : Nat) (h : ∀ x ∈ l, x.length = k) : l.flatten.length = k * l.length := by
  induction l with
  | nil => rfl
  | cons x l ih => simp [ih fun y hy => h y (by simp [hy]), h x (by simp), Nat.mul_add, Nat.add_comm]
theorem digF_size (t : ByteArray) : (digF t).size = 32 := by
  have h1 : (moreF ⟨startL, .empty, 0⟩ t).state.length = 8 := blocksN_len rfl _ _
  have h2 : ∀ b, (moreF (moreF ⟨startL, .empty, 0⟩ t) b).state.length = 8 := fun b => blocksN_len h1 _ _
  show (outL _).length = 32
  unfold outL
  rw [flat_len _ 4 (fun x hx => by obtain ⟨w, _, rfl⟩ := List.mem_map.1 hx; rfl), List.length_map, h2]
end Go.Proofs.YtdbnppipgblajaaGreatDoor
namespace Go.Proofs.YtdbnppipgblajaaGreatDoor
open Go.RowKit
set_option linter.unusedSimpArgs false
set_option linter.unusedVariables false
set_option maxRecDepth 100000
set_option maxHeartbeats 8000000
theorem l05Turn_c (x : UInt32) (k : Nat) (h0 : 0 < k) (h1 : k < 32) : Fun1 Tryz.prog 118 [.one (.lit (.int .u32 x.toNat)), .one (.lit (.int .u64 (k : Int)))] (.one (.lit (.int .u32 (turnW x k).toNat))) := by
  refine fun1_of_vc tb_ok mix (fn := Tryz.f118) Tryz.func118 rfl (by kernel_rfl) (by kernel_rfl) (by simp [Tryz.f118]) (by rfl) ?_
  (conv => whnf)
  refine ⟨by omega, ((x >>> UInt32.ofNat k).toNat : Int), by rw [← u32_shr x k h1]; congr 2; show k = min ((k : Int).toNat) 32; omega, ?_⟩; (conv => whnf)
  refine ⟨((32 - k : Nat) : Int), by rw [IntKind.wrap_u64]; omega, ?_⟩; (conv => whnf)
  refine ⟨by omega, ((x <<< UInt32.ofNat (32 - k)).toNat : Int), by rw [← u32_shl x (32 - k) (by omega)]; congr 3; show 32 - k = min (((32 - k : Nat) : Int).toNat) 32; omega, ?_⟩; (conv => whnf)
  exact ⟨close_int (u32_or _ _).symm, trivial⟩
def eW (x : UInt32) : List AV := [.lit (.int .u32 (x.toNat : Int))]
def eN (x : UInt32) : List AV := eInt (x.toNat : Int)
theorem l05Start_c : Fun1 Tryz.prog 103 [] (.one (.row true 1 (startL.map eN))) := by
  refine fun1_of_vc tb_ok mix (fn := Tryz.f103) Tryz.func103 rfl (by kernel_rfl) (by kernel_rfl) (by simp [Tryz.f103]) (by rfl) ?_
  (conv => whnf)
  exact ⟨close_row rfl rfl rfl rfl, trivial⟩
theorem l05Keys_c : Fun1 Tryz.prog 119 [] (.one (.row true 1 (keysL.map eW))) := by
  refine fun1_of_vc tb_ok mix (fn := Tryz.f119) Tryz.func119 rfl (by kernel_rfl) (by kernel_rfl) (by simp [Tryz.f119]) (by rfl) ?_
  (conv => whnf)
  exact ⟨close_row rfl rfl rfl rfl, trivial⟩
theorem hashBegin_c : Fun1 Tryz.prog 83 [] (.agg (DHash.enc ⟨startL, .empty, 0⟩)) := by
  refine fun1_of_vc tb_ok mix (fn := Tryz.f83) Tryz.func83 rfl (by kernel_rfl) (by kernel_rfl) (by simp [Tryz.f83]) (by rfl) ?_
  (conv => whnf)
  refine ⟨_, _, l05Start_c, (by repeat' (first | exact lends_nil | exact lend_dead | apply lends_cons | apply lend_agg | apply lend_one | exact all2_nil | apply all2_cons | exact la_lit rfl | exact la_int (by first | rfl | omega) | exact la_row rfl rfl | exact la_loc rfl rfl rfl (by first | rfl | simp [mkL_length]) (by first | rfl | simp) | exact la_nil rfl | apply la_fn rfl | exact lend_same rfl rfl | exact lend_bor rfl rfl)), ?_⟩; (conv => whnf)
  exact ⟨close_row rfl rfl rfl rfl, close_str rfl, close_int rfl, trivial⟩
theorem u32_not' (x : UInt32) : bits .xor .u32 (if IntKind.u32.signed = true then -1 else IntKind.u32.max) (x.toNat : Int) = ((~~~x).toNat : Int) := u32_not x
/-- The words that are made so far, and zeros behind them. -/
def wRow (w : List UInt32) : List UInt32 := w ++ List.replicate (64 - w.length) 0
theorem wRow_len {w : List UInt32} (h : w.length ≤ 64) : (wRow w).length = 64 := by simp [wRow]; omega
theorem wRow_set {w : List UInt32} (h : w.length < 64) (v : UInt32) : (wRow w).set w.length v = wRow (w ++ [v]) := by
  unfold wRow
  have e : 64 - w.length = (64 - (w ++ [v]).length) + 1 := by simp; omega
  rw [e, List.replicate_succ, List.append_assoc, List.set_append_right _ _ (by omega), Nat.sub_self]; rfl
theorem wRow_get {w : List UInt32} {j : Nat} (h : j < w.length) : (wRow w)[j]? = some (w.getD j 0) := by
  unfold wRow
  rw [List.getElem?_append_left h, List.getElem?_eq_getElem h, List.getD_eq_getElem?_getD, List.getElem?_eq_getElem h]; rfl
theorem wRow_at {w : List UInt32} {j : Nat} (h : j < w.length) : ((wRow w).map eW)[0 + j]? = some (eW (w.getD j 0)) := by
  rw [Nat.zero_add, List.getElem?_map, wRow_get h]; rfl
theorem wRow_in {w : List UInt32} {j : Nat} (h0 : w.length ≤ 64) (h : j < 64) : ∃ x, ((wRow w).map eW)[0 + j]? = some (eW x) := by
  rw [Nat.zero_add, List.getElem?_map, List.getElem?_eq_getElem (by rw [wRow_len h0]; exact h)]; exact ⟨_, rfl⟩
theorem wRow_store {w : List UInt32} (h : w.length < 64) {v : UInt32} {r : Int} (hr : r = (v.toNat : Int)) : (wRow (w ++ [v])).map eW = ((wRow w).map eW).set (0 + w.length) [.lit (.int .u32 r)] := by
  subst hr
  rw [Nat.zero_add, ← wRow_set h, List.map_set]; rfl
theorem l05Block_c (st : List UInt32) (hs : st.length = 8) (b : ByteArray) (hb : b.size = 64) : Fun1 Tryz.prog 102 [.one (.row true 1 (st.map eN)), .one (.lit (.string b))] (.one (.row true 1 ((block st b).map eN))) := by
  refine fun1_of_vc tb_ok mix (fn := Tryz.f102) Tryz.func102 rfl (by kernel_rfl) (by kernel_rfl) (by simp [Tryz.f102]) (by show AV.nb (4 + 1) _ = true; exact nb_map (n := 4) (fun y => rfl) _) ?_
  (conv => whnf)
  refine ⟨64, rfl, by decide, by decide, by decide, ?_⟩; (conv => whnf)
  refine ⟨LG (fun i : Nat => i ≤ 16) (fun i => 16 - i) (fun i => AS.of [(0, .one (.row true 1 (st.map eN))), (1, .one (.lit (.string b))), (5, .one (.loc 400 0 64)), (6, .one (.lit (.int .i64 (i : Nat))))] [(400, .row true 1 ((wRow (sched b i)).map eW))]), lg_init 0 (by omega) (weak_of (by repeat (first | refine all_cons (by first | rfl | exact eq_int rfl (by first | rfl | omega | (simp; done) | (simp; omega)) | exact eq_loc rfl (by first | rfl | omega | (simp; done) | (simp; omega)) | exact eq_bool rfl (by simp_all)) ?_ | exact all_nil)) (by repeat (first | refine all_cons (by first | rfl | exact eq_int rfl (by first | rfl | omega | (simp; done) | (simp; omega)) | exact eq_loc rfl (by first | rfl | omega | (simp; done) | (simp; omega)) | exact eq_bool rfl (by simp_all)) ?_ | exact all_nil)) rfl rfl), ?_⟩
  rintro σ k ⟨i, hi, rfl, rfl⟩
  refine ⟨_, Weak.refl _, ?_⟩
  (conv => whnf)
  (split <;> rename_i h <;> (try simp only [decide_eq_true_eq, decide_eq_false_iff_not, Bool.not_eq_true', Bool.not_eq_false', Bool.not_eq_true, Bool.not_eq_false, List.length_map] at h) <;> conv => whnf)
  · have hl := sched_len b i
    refine ⟨((4 * i : Nat) : Int), by rw [← wrap64_id] <;> omega, ?_⟩; (conv => whnf)
    refine ⟨4 * i, rfl, by omega, ?_⟩; (conv => whnf)
    refine ⟨((byteW b (4 * i)).toNat : Int), (u8_u32 _).symm, ?_⟩; (conv => whnf)
    refine ⟨by decide, _, (u32_shl _ 24 (by decide)).symm, ?_⟩; (conv => whnf)
    refine ⟨((4 * i : Nat) : Int), by rw [← wrap64_id] <;> omega, ?_⟩; (conv => whnf)
    refine ⟨((4 * i + 1 : Nat) : Int), by rw [← wrap64_id] <;> omega, ?_⟩; (conv => whnf)
    refine ⟨4 * i + 1, rfl, by omega, ?_⟩; (conv => whnf)
    refine ⟨((byteW b (4 * i + 1)).toNat : Int), (u8_u32 _).symm, ?_⟩; (conv => whnf)
    refine ⟨by decide, _, (u32_shl _ 16 (by decide)).symm, ?_⟩; (conv => whnf)
    refine ⟨((4 * i : Nat) : Int), by rw [← wrap64_id] <;> omega, ?_⟩; (conv => whnf)
    refine ⟨((4 * i + 2 : Nat) : Int), by rw [← wrap64_id] <;> omega, ?_⟩; (conv => whnf)
    refine ⟨4 * i + 2, rfl, by omega, ?_⟩; (conv => whnf)
    refine ⟨((byteW b (4 * i + 2)).toNat : Int), (u8_u32 _).symm, ?_⟩; (conv => whnf)
    refine ⟨by decide, _, (u32_shl _ 8 (by decide)).symm, ?_⟩; (conv => whnf)
    refine ⟨((4 * i : Nat) : Int), by rw [← wrap64_id] <;> omega, ?_⟩; (conv => whnf)
    refine ⟨((4 * i + 3 : Nat) : Int), by rw [← wrap64_id] <;> omega, ?_⟩; (conv => whnf)
    refine ⟨4 * i + 3, rfl, by omega, ?_⟩; (conv => whnf)
    refine ⟨((byteW b (4 * i + 3)).toNat : Int), (u8_u32 _).symm, ?_⟩; (conv => whnf)
    refine ⟨i, rfl, by omega, ?_⟩; (conv => whnf)
    obtain ⟨x0, hx0⟩ := wRow_in (w := sched b i) (by omega) (show i < 64 by omega)
    refine ⟨_, hx0, ?_⟩; (conv => whnf)
    have hi16 : i < 16 := by omega
    refine ⟨(wRow (sched b (i + 1))).map eW, by
      have := wRow_store (w := sched b i) (by omega) (v := be32 b (4 * i)) (show bits .or .u32 (bits .or .u32 (bits .or .u32 ((byteW b (4 * i) <<< UInt32.ofNat 24).toNat : Int) ((byteW b (4 * i + 1) <<< UInt32.ofNat 16).toNat : Int)) ((byteW b (4 * i + 2) <<< UInt32.ofNat 8).toNat : Int)) ((byteW b (4 * i + 3)).toNat : Int) = ((be32 b (4 * i)).toNat : Int) by simp only [u32_or]; rfl)
      rw [hl] at this
      rw [show sched b (i + 1) = sched b i ++ [be32 b (4 * i)] by simp only [sched, schedN, hl, if_pos hi16]]
      exact this, ?_⟩; (conv => whnf)
    (refine ⟨((i + 1 : Nat) : Int), by rw [← wrap64_id] <;> omega, ?_⟩; conv => whnf)
    exact lg_back (i + 1) (by omega) (by (try dsimp only); omega) (weak_of (by repeat (first | refine all_cons (by first | rfl | exact eq_int rfl (by first | rfl | omega | (simp; done) | (simp; omega)) | exact eq_loc rfl (by first | rfl | omega | (simp; done) | (simp; omega)) | exact eq_bool rfl (by simp_all)) ?_ | exact all_nil)) (by repeat (first | refine all_cons (by first | rfl | exact eq_int rfl (by first | rfl | omega | (simp; done) | (simp; omega)) | exact eq_loc rfl (by first | rfl | omega | (simp; done) | (simp; omega)) | exact eq_bool rfl (by simp_all)) ?_ | exact all_nil)) rfl rfl)
  · have : i = 16 := by omega
    subst this
    refine ⟨LG (fun i : Nat => 16 ≤ i ∧ i ≤ 64) (fun i => 64 - i) (fun i => AS.of [(0, .one (.row true 1 (st.map eN))), (5, .one (.loc 400 0 64)), (7, .one (.lit (.int .i64 (i : Nat))))] [(400, .row true 1 ((wRow (sched b i)).map eW))]), lg_init 16 (by omega) (weak_of (by repeat (first | refine all_cons (by first | rfl | exact eq_int rfl (by first | rfl | omega | (simp; done) | (simp; omega)) | exact eq_loc rfl (by first | rfl | omega | (simp; done) | (simp; omega)) | exact eq_bool rfl (by simp_all)) ?_ | exact all_nil)) (by repeat (first | refine all_cons (by first | rfl | exact eq_int rfl (by first | rfl | omega | (simp; done) | (simp; omega)) | exact eq_loc rfl (by first | rfl | omega | (simp; done) | (simp; omega)) | exact eq_bool rfl (by simp_all)) ?_ | exact all_nil)) rfl rfl), ?_⟩
    rintro σ k ⟨i, ⟨hi0, hi⟩, rfl, rfl⟩
    refine ⟨_, Weak.refl _, ?_⟩
    (conv => whnf)
    (split <;> rename_i h2 <;> (try simp only [decide_eq_true_eq, decide_eq_false_iff_not, Bool.not_eq_true', Bool.not_eq_false', Bool.not_eq_true, Bool.not_eq_false, List.length_map] at h2) <;> conv => whnf)
    · have hl := sched_len b i
      obtain ⟨w, hw⟩ : ∃ w, sched b i = w := ⟨_, rfl⟩
      simp only [hw] at hl ⊢
      have hsc : sched b (i + 1) = w ++ [w.getD (i - 16) 0 + sg0 (w.getD (i - 15) 0) + w.getD (i - 7) 0 + sg1 (w.getD (i - 2) 0)] := by
        simp only [sched, schedN, hw, if_neg (show ¬ i < 16 by omega)]
      refine ⟨((i - 15 : Nat) : Int), by rw [← wrap64_id] <;> omega, ?_⟩; (conv => whnf)
      refine ⟨i - 15, rfl, by omega, ?_⟩; (conv => whnf)
      refine ⟨_, wRow_at (w := w) (j := i - 15) (by omega), ?_⟩; (conv => whnf)
      refine ⟨((i - 2 : Nat) : Int), by rw [← wrap64_id] <;> omega, ?_⟩; (conv => whnf)
      refine ⟨i - 2, rfl, by omega, ?_⟩; (conv => whnf)
      refine ⟨_, wRow_at (w := w) (j := i - 2) (by omega), ?_⟩; (conv => whnf)
      obtain ⟨x, hx⟩ : ∃ x, w.getD (i - 15) 0 = x := ⟨_, rfl⟩
      obtain ⟨y, hy⟩ : ∃ y, w.getD (i - 2) 0 = y := ⟨_, rfl⟩
      simp only [hx, hy] at hsc ⊢
      refine ⟨((i - 16 : Nat) : Int), by rw [← wrap64_id] <;> omega, ?_⟩; (conv => whnf)
      refine ⟨i - 16, rfl, by omega, ?_⟩; (conv => whnf)
      refine ⟨_, wRow_at (w := w) (j := i - 16) (by omega), ?_⟩; (conv => whnf)
      refine ⟨_, _, l05Turn_c x 7 (by decide) (by decide), (by repeat' (first | exact lends_nil | exact lend_dead | apply lends_cons | apply lend_agg | apply lend_one | exact all2_nil | apply all2_cons | exact la_lit rfl | exact la_int (by first | rfl | omega) | exact la_row rfl rfl | exact la_loc rfl rfl rfl (by first | rfl | simp [mkL_length]) (by first | rfl | simp) | exact la_nil rfl | apply la_fn rfl | exact lend_same rfl rfl | exact lend_bor rfl rfl)), ?_⟩; (conv => whnf)
      refine ⟨_, _, l05Turn_c x 18 (by decide) (by decide), (by repeat' (first | exact lends_nil | exact lend_dead | apply lends_cons | apply lend_agg | apply lend_one | exact all2_nil | apply all2_cons | exact la_lit rfl | exact la_int (by first | rfl | omega) | exact la_row rfl rfl | exact la_loc rfl rfl rfl (by first | rfl | simp [mkL_length]) (by first | rfl | simp) | exact la_nil rfl | apply la_fn rfl | exact lend_same rfl rfl | exact lend_bor rfl rfl)), ?_⟩; (conv => whnf)
      refine ⟨by decide, _, (u32_shr x 3 (by decide)).symm, ?_⟩; (conv => whnf)
      refine ⟨((w.getD (i - 16) 0 + sg0 x).toNat : Int), by rw [← u32_add]; simp only [u32_xor, sg0], ?_⟩; (conv => whnf)
      refine ⟨((i - 7 : Nat) : Int), by rw [← wrap64_id] <;> omega, ?_⟩; (conv => whnf)
      refine ⟨i - 7, rfl, by omega, ?_⟩; (conv => whnf)
      refine ⟨_, wRow_at (w := w) (j := i - 7) (by omega), ?_⟩; (conv => whnf)
      refine ⟨_, (u32_add _ _).symm, ?_⟩; (conv => whnf)
      refine ⟨_, _, l05Turn_c y 17 (by decide) (by decide), (by repeat' (first | exact lends_nil | exact lend_dead | apply lends_cons | apply lend_agg | apply lend_one | exact all2_nil | apply all2_cons | exact la_lit rfl | exact la_int (by first | rfl | omega) | exact la_row rfl rfl | exact la_loc rfl rfl rfl (by first | rfl | simp [mkL_length]) (by first | rfl | simp) | exact la_nil rfl | apply la_fn rfl | exact lend_same rfl rfl | exact lend_bor rfl rfl)), ?_⟩; (conv => whnf)
      refine ⟨_, _, l05Turn_c y 19 (by decide) (by decide), (by repeat' (first | exact lends_nil | exact lend_dead | apply lends_cons | apply lend_agg | apply lend_one | exact all2_nil | apply all2_cons | exact la_lit rfl | exact la_int (by first | rfl | omega) | exact la_row rfl rfl | exact la_loc rfl rfl rfl (by first | rfl | simp [mkL_length]) (by first | rfl | simp) | exact la_nil rfl | apply la_fn rfl | exact lend_same rfl rfl | exact lend_bor rfl rfl)), ?_⟩; (conv => whnf)
      refine ⟨by decide, _, (u32_shr y 10 (by decide)).symm, ?_⟩; (conv => whnf)
      refine ⟨((w.getD (i - 16) 0 + sg0 x + w.getD (i - 7) 0 + sg1 y).toNat : Int), by rw [← u32_add (_ + _)]; simp only [u32_xor, sg1], ?_⟩; (conv => whnf)
      refine ⟨i, rfl, by omega, ?_⟩; (conv => whnf)
      obtain ⟨x0, hx0⟩ := wRow_in (w := w) (by omega) (show i < 64 by omega)
      refine ⟨_, hx0, ?_⟩; (conv => whnf)
      refine ⟨(wRow (sched b (i + 1))).map eW, by
        have := wRow_store (w := w) (by omega) (v := w.getD (i - 16) 0 + sg0 x + w.getD (i - 7) 0 + sg1 y) rfl
        rw [hl] at this
        rw [hsc]
        exact this, ?_⟩; (conv => whnf)
      (refine ⟨((i + 1 : Nat) : Int), by rw [← wrap64_id] <;> omega, ?_⟩; conv => whnf)
      exact lg_back (i + 1) (by omega) (by (try dsimp only); omega) (weak_of (by repeat (first | refine all_cons (by first | rfl | exact eq_int rfl (by first | rfl | omega | (simp; done) | (simp; omega)) | exact eq_loc rfl (by first | rfl | omega | (simp; done) | (simp; omega)) | exact eq_bool rfl (by simp_all)) ?_ | exact all_nil)) (by repeat (first | refine all_cons (by first | rfl | exact eq_int rfl (by first | rfl | omega | (simp; done) | (simp; omega)) | exact eq_loc rfl (by first | rfl | omega | (simp; done) | (simp; omega)) | exact eq_bool rfl (by simp_all)) ?_ | exact all_nil)) rfl rfl)
    · have : i = 64 := by omega
      subst this
      obtain ⟨W, hW⟩ : ∃ W, sched b 64 = W := ⟨_, rfl⟩
      have hWl : W.length = 64 := by rw [← hW]; exact sched_len b 64
      have hblk : block st b = addW st (rounds W (S8.of st) 64).list := by unfold block; rw [hW]
      rw [hblk]
      simp only [hW]
      clear hblk hW
      match st, hs with
      | [s0, s1, s2, s3, s4, s5, s6, s7], _ => ?_
      refine ⟨0, rfl, _, rfl, ?_⟩; (conv => whnf)
      refine ⟨(s0.toNat : Int), (u32_wrap s0).symm, ?_⟩; (conv => whnf)
      refine ⟨1, rfl, _, rfl, ?_⟩; (conv => whnf)
      refine ⟨(s1.toNat : Int), (u32_wrap s1).symm, ?_⟩; (conv => whnf)
      refine ⟨2, rfl, _, rfl, ?_⟩; (conv => whnf)
      refine ⟨(s2.toNat : Int), (u32_wrap s2).symm, ?_⟩; (conv => whnf)
      refine ⟨3, rfl, _, rfl, ?_⟩; (conv => whnf)
      refine ⟨(s3.toNat : Int), (u32_wrap s3).symm, ?_⟩; (conv => whnf)
      refine ⟨4, rfl, _, rfl, ?_⟩; (conv => whnf)
      refine ⟨(s4.toNat : Int), (u32_wrap s4).symm, ?_⟩; (conv => whnf)
      refine ⟨5, rfl, _, rfl, ?_⟩; (conv => whnf)
      refine ⟨(s5.toNat : Int), (u32_wrap s5).symm, ?_⟩; (conv => whnf)
      refine ⟨6, rfl, _, rfl, ?_⟩; (conv => whnf)
      refine ⟨(s6.toNat : Int), (u32_wrap s6).symm, ?_⟩; (conv => whnf)
      refine ⟨7, rfl, _, rfl, ?_⟩; (conv => whnf)
      refine ⟨(s7.toNat : Int), (u32_wrap s7).symm, ?_⟩; (conv => whnf)
      have cK := l05Keys_c
      have hRs : ∀ i, rounds W (S8.of [s0, s1, s2, s3, s4, s5, s6, s7]) (i + 1) = rnd (rounds W (S8.of [s0, s1, s2, s3, s4, s5, s6, s7]) i) (keysL.getD i 0) (W.getD i 0) := fun i => rfl
      have hKl : keysL.length = 64 := rfl
      have hR0 : rounds W (S8.of [s0, s1, s2, s3, s4, s5, s6, s7]) 0 = ⟨s0, s1, s2, s3, s4, s5, s6, s7⟩ := rfl
      generalize rounds W (S8.of [s0, s1, s2, s3, s4, s5, s6, s7]) = RR at hRs hR0 ⊢
      generalize keysL = K at cK hRs hKl
      refine ⟨_, _, cK, (by repeat' (first | exact lends_nil | exact lend_dead | apply lends_cons | apply lend_agg | apply lend_one | exact all2_nil | apply all2_cons | exact la_lit rfl | exact la_int (by first | rfl | omega) | exact la_row rfl rfl | exact la_loc rfl rfl rfl (by first | rfl | simp [mkL_length]) (by first | rfl | simp) | exact la_nil rfl | apply la_fn rfl | exact lend_same rfl rfl | exact lend_bor rfl rfl)), ?_⟩; (conv => whnf)
      refine ⟨LG (fun p : Nat × S8 => p.1 ≤ 64 ∧ p.2 = RR p.1) (fun p => 64 - p.1) (fun p => AS.of [(0, .one (.row true 1 ([s0, s1, s2, s3, s4, s5, s6, s7].map eN))), (5, .one (.loc 400 0 64)),
          (10, .one (.lit (.int .u32 p.2.a.toNat))), (11, .one (.lit (.int .u32 p.2.b.toNat))), (12, .one (.lit (.int .u32 p.2.c.toNat))), (13, .one (.lit (.int .u32 p.2.d.toNat))),
          (14, .one (.lit (.int .u32 p.2.e.toNat))), (15, .one (.lit (.int .u32 p.2.f.toNat))), (16, .one (.lit (.int .u32 p.2.g.toNat))), (17, .one (.lit (.int .u32 p.2.h.toNat))),
          (18, .one (.loc 2240 0 64)), (19, .one (.lit (.int .i64 (p.1 : Nat))))] [(400, .row true 1 ((wRow W).map eW)), (2240, .row true 1 (K.map eW))]), lg_init (0, ⟨s0, s1, s2, s3, s4, s5, s6, s7⟩) ⟨by omega, hR0.symm⟩ (weak_of (all_cons rfl (all_cons rfl (all_cons rfl (all_cons rfl (all_cons rfl (all_cons rfl (all_cons rfl (all_cons rfl (all_cons rfl (all_cons rfl (all_cons (eq_loc rfl (by simp [hKl])) (all_cons rfl all_nil)))))))))))) (by repeat (first | refine all_cons (by first | rfl | exact eq_int rfl (by first | rfl | omega | (simp; done) | (simp; omega)) | exact eq_loc rfl (by first | rfl | omega | (simp; done) | (simp; omega)) | exact eq_bool rfl (by simp_all)) ?_ | exact all_nil)) rfl rfl), ?_⟩
      rintro σ k ⟨⟨i, s⟩, ⟨hi, hS⟩, rfl, rfl⟩
      simp only at hi hS ⊢
      refine ⟨_, Weak.refl _, ?_⟩
      (conv => whnf)
      (split <;> rename_i h3 <;> (try simp only [decide_eq_true_eq, decide_eq_false_iff_not, Bool.not_eq_true', Bool.not_eq_false', Bool.not_eq_true, Bool.not_eq_false, List.length_map] at h3) <;> conv => whnf)
      · have hsc := hRs i
        rw [← hS] at hsc
        obtain ⟨a, b1, c, d, e, f, g, h⟩ := s
        dsimp only
        refine ⟨_, _, l05Turn_c e 6 (by decide) (by decide), (by repeat' (first | exact lends_nil | exact lend_dead | apply lends_cons | apply lend_agg | apply lend_one | exact all2_nil | apply all2_cons | exact la_lit rfl | exact la_int (by first | rfl | omega) | exact la_row rfl rfl | exact la_loc rfl rfl rfl (by first | rfl | simp [mkL_length]) (by first | rfl | simp) | exact la_nil rfl | apply la_fn rfl | exact lend_same rfl rfl | exact lend_bor rfl rfl)), ?_⟩; (conv => whnf)
        refine ⟨_, _, l05Turn_c e 11 (by decide) (by decide), (by repeat' (first | exact lends_nil | exact lend_dead | apply lends_cons | apply lend_agg | apply lend_one | exact all2_nil | apply all2_cons | exact la_lit rfl | exact la_int (by first | rfl | omega) | exact la_row rfl rfl | exact la_loc rfl rfl rfl (by first | rfl | simp [mkL_length]) (by first | rfl | simp) | exact la_nil rfl | apply la_fn rfl | exact lend_same rfl rfl | exact lend_bor rfl rfl)), ?_⟩; (conv => whnf)
        refine ⟨_, _, l05Turn_c e 25 (by decide) (by decide), (by repeat' (first | exact lends_nil | exact lend_dead | apply lends_cons | apply lend_agg | apply lend_one | exact all2_nil | apply all2_cons | exact la_lit rfl | exact la_int (by first | rfl | omega) | exact la_row rfl rfl | exact la_loc rfl rfl rfl (by first | rfl | simp [mkL_length]) (by first | rfl | simp) | exact la_nil rfl | apply la_fn rfl | exact lend_same rfl rfl | exact lend_bor rfl rfl)), ?_⟩; (conv => whnf)
        refine ⟨((h + bs1 e).toNat : Int), by rw [← u32_add]; simp only [u32_xor, bs1], ?_⟩; (conv => whnf)
        refine ⟨((h + bs1 e + chW e f g).toNat : Int), by rw [← u32_add (_ + _)]; simp only [u32_xor, u32_and, u32_not', chW], ?_⟩; (conv => whnf)
        refine ⟨i, rfl, by omega, ?_⟩; (conv => whnf)
        refine ⟨eW (K.getD i 0), by
          have hk : i < K.length := by omega
          rw [Nat.zero_add, List.getElem?_map, List.getD_eq_getElem?_getD, List.getElem?_eq_getElem hk]; rfl, ?_⟩; (conv => whnf)
        refine ⟨_, (u32_add _ _).symm, ?_⟩; (conv => whnf)
        refine ⟨i, rfl, by omega, ?_⟩; (conv => whnf)
        refine ⟨_, wRow_at (w := W) (j := i) (by omega), ?_⟩; (conv => whnf)
        refine ⟨_, (u32_add _ _).symm, ?_⟩; (conv => whnf)
        refine ⟨_, _, l05Turn_c a 2 (by decide) (by decide), (by repeat' (first | exact lends_nil | exact lend_dead | apply lends_cons | apply lend_agg | apply lend_one | exact all2_nil | apply all2_cons | exact la_lit rfl | exact la_int (by first | rfl | omega) | exact la_row rfl rfl | exact la_loc rfl rfl rfl (by first | rfl | simp [mkL_length]) (by first | rfl | simp) | exact la_nil rfl | apply la_fn rfl | exact lend_same rfl rfl | exact lend_bor rfl rfl)), ?_⟩; (conv => whnf)
        refine ⟨_, _, l05Turn_c a 13 (by decide) (by decide), (by repeat' (first | exact lends_nil | exact lend_dead | apply lends_cons | apply lend_agg | apply lend_one | exact all2_nil | apply all2_cons | exact la_lit rfl | exact la_int (by first | rfl | omega) | exact la_row rfl rfl | exact la_loc rfl rfl rfl (by first | rfl | simp [mkL_length]) (by first | rfl | simp) | exact la_nil rfl | apply la_fn rfl | exact lend_same rfl rfl | exact lend_bor rfl rfl)), ?_⟩; (conv => whnf)
        refine ⟨_, _, l05Turn_c a 22 (by decide) (by decide), (by repeat' (first | exact lends_nil | exact lend_dead | apply lends_cons | apply lend_agg | apply lend_one | exact all2_nil | apply all2_cons | exact la_lit rfl | exact la_int (by first | rfl | omega) | exact la_row rfl rfl | exact la_loc rfl rfl rfl (by first | rfl | simp [mkL_length]) (by first | rfl | simp) | exact la_nil rfl | apply la_fn rfl | exact lend_same rfl rfl | exact lend_bor rfl rfl)), ?_⟩; (conv => whnf)
        refine ⟨((bs0 a + majW a b1 c).toNat : Int), by rw [← u32_add]; simp only [u32_xor, u32_and, bs0, majW], ?_⟩; (conv => whnf)
        refine ⟨_, (u32_add _ _).symm, ?_⟩; (conv => whnf)
        refine ⟨_, (u32_add _ _).symm, ?_⟩; (conv => whnf)
        (refine ⟨((i + 1 : Nat) : Int), by rw [← wrap64_id] <;> omega, ?_⟩; conv => whnf)
        exact lg_back ((i + 1, rnd ⟨a, b1, c, d, e, f, g, h⟩ (K.getD i 0) (W.getD i 0)) : Nat × S8) ⟨by show i + 1 ≤ 64; omega, hsc.symm⟩ (by (try dsimp only); omega) (weak_of (by repeat (first | refine all_cons (by first | rfl | exact eq_int rfl (by first | rfl | omega | (simp; done) | (simp; omega)) | exact eq_loc rfl (by first | rfl | omega | (simp; done) | (simp; omega)) | exact eq_bool rfl (by simp_all)) ?_ | exact all_nil)) (by repeat (first | refine all_cons (by first | rfl | exact eq_int rfl (by first | rfl | omega | (simp; done) | (simp; omega)) | exact eq_loc rfl (by first | rfl | omega | (simp; done) | (simp; omega)) | exact eq_bool rfl (by simp_all)) ?_ | exact all_nil)) rfl rfl)
      · have : i = 64 := by omega
        subst this
        rw [← hS]
        obtain ⟨a, b1, c, d, e, f, g, h⟩ := s
        dsimp only
        (conv => whnf)
        refine ⟨LG (fun i : Nat => i ≤ 8) (fun i => 8 - i) (fun i => AS.of [(0, .one (.row true 1 ([s0, s1, s2, s3, s4, s5, s6, s7].map eN))), (22, .one (.loc 3424 0 8)), (23, .one (.loc 3440 0 i)), (24, .one (.lit (.int .i64 (i : Nat))))]
          [(3424, .row true 1 ([a, b1, c, d, e, f, g, h].map eW)), (3440, .row true 1 (((addW [s0, s1, s2, s3, s4, s5, s6, s7] [a, b1, c, d, e, f, g, h]).take i).map eN))]), lg_init 0 (by omega) (weak_of (by repeat (first | refine all_cons (by first | rfl | exact eq_int rfl (by first | rfl | omega | (simp; done) | (simp; omega)) | exact eq_loc rfl (by first | rfl | omega | (simp; done) | (simp; omega)) | exact eq_bool rfl (by simp_all)) ?_ | exact all_nil)) (by repeat (first | refine all_cons (by first | rfl | exact eq_int rfl (by first | rfl | omega | (simp; done) | (simp; omega)) | exact eq_loc rfl (by first | rfl | omega | (simp; done) | (simp; omega)) | exact eq_bool rfl (by simp_all)) ?_ | exact all_nil)) rfl rfl), ?_⟩
        have e0 : (S8.mk a b1 c d e f g h).list = [a, b1, c, d, e, f, g, h] := rfl
        rw [e0]
        have hLl : [s0, s1, s2, s3, s4, s5, s6, s7].length = 8 := rfl
        have hVl : [a, b1, c, d, e, f, g, h].length = 8 := rfl
        generalize [s0, s1, s2, s3, s4, s5, s6, s7] = L at hLl ⊢
        generalize [a, b1, c, d, e, f, g, h] = V at hVl ⊢
        have hAl : (addW L V).length = 8 := by simp [addW, hLl, hVl]
        rintro σ k ⟨i, hi, rfl, rfl⟩
        refine ⟨_, Weak.refl _, ?_⟩
        (conv => whnf)
        (split <;> rename_i h4 <;> (try simp only [decide_eq_true_eq, decide_eq_false_iff_not, Bool.not_eq_true', Bool.not_eq_false', Bool.not_eq_true, Bool.not_eq_false, List.length_map] at h4) <;> conv => whnf)
        · have hiL : i < L.length := by omega
          have hiV : i < V.length := by omega
          have hsx : (addW L V).take (i + 1) = (addW L V).take i ++ [L[i] + V[i]] := by
            rw [List.take_succ_eq_append_getElem (by omega)]; simp [addW]
          refine ⟨i, rfl, _, at_map hiL, ?_⟩; (conv => whnf)
          refine ⟨(L[i].toNat : Int), (u32_wrap _).symm, ?_⟩; (conv => whnf)
          refine ⟨i, rfl, by omega, ?_⟩; (conv => whnf)
          refine ⟨_, at_map0 hiV, ?_⟩; (conv => whnf)
          refine ⟨_, (u32_add _ _).symm, ?_⟩; (conv => whnf)
          have hlt := u32_lt (L[i] + V[i])
          refine ⟨((L[i] + V[i]).toNat : Int), by rw [← wrap64_id] <;> omega, ?_⟩; (conv => whnf)
          refine ⟨true, [eN (L[i] + V[i])], ⟨rfl, by first | (simp [chunk]; done) | (simp [chunk, hAl]; done) | (simp [chunk, hAl]; omega), rfl, by simp [chunk]; rfl⟩, ?_⟩; (conv => whnf)
          refine ⟨[eN (L[i] + V[i])], laid_map (f := eN) (fun _ => rfl) [L[i] + V[i]], rfl, by first | (simp [chunk]; done) | (simp [chunk, hAl]; done) | (simp [chunk, hAl]; omega), rfl, by simp [maxLen, chunk]; omega, by simp [chunk]; omega, ?_⟩; (conv => whnf)
          (refine ⟨((i + 1 : Nat) : Int), by rw [← wrap64_id] <;> omega, ?_⟩; conv => whnf)
          exact lg_back (i + 1) (by omega) (by (try dsimp only); omega) (weak_of (all_cons rfl (all_cons rfl (all_cons (eq_loc rfl (by first | (simp [chunk, hAl]; done) | (simp [chunk, hAl]; omega))) (all_cons rfl all_nil)))) (all_cons rfl (all_cons (eq_row rfl (by rw [hsx]; simp [chunk])) all_nil)) rfl rfl)
        · have : i = 8 := by omega
          subst this
          have : (addW L V).take 8 = addW L V := List.take_of_length_le (by omega)
          exact ⟨close_row rfl rfl (by simp [hAl]) (by rw [this]), trivial⟩
end Go.Proofs.YtdbnppipgblajaaGreatDoor
