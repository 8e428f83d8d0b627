/- The abstract machine: more words for the walks. -/
import Derived.Test.YtlijeincckbdaaaQc
import Derived.Shelf.SlSortCmp.WholeK
import Derived.ProofKit
import Derived.Deep.Slices
namespace Go.Proofs.Ytlijeincckbdaaa
open Go.RowKit
set_option linter.unusedSimpArgs false
set_option linter.unusedVariables false

theorem eq_int {t : T} {k : IntKind} {a b : Int} (h : t = .one (.lit (.int k a))) (e : a = b) : t = .one (.lit (.int k b)) := by rw [h, e]
theorem eq_str {t : T} {a b : ByteArray} (h : t = .one (.lit (.string a))) (e : a = b) : t = .one (.lit (.string b)) := by rw [h, e]
theorem eq_bool {t : T} {a b : Bool} (h : t = .one (.lit (.bool a))) (e : a = b) : t = .one (.lit (.bool b)) := by rw [h, e]
theorem eq_loc {t : T} {s o l l' : Nat} (h : t = .one (.loc s o l)) (e : l = l') : t = .one (.loc s o l') := by rw [h, e]
theorem eq_row {t : Option Blk} {p : Bool} {sz : Nat} {es es' : List (List AV)} (h : t = some (.row p sz es)) (e : es = es') : t = some (.row p sz es') := by rw [h, e]
theorem eq_var {t : Option Blk} {xs ys : List AV} (h : t = some (.var xs)) (e : xs = ys) : t = some (.var ys) := by rw [h, e]

/-- A loop's states: one for each datum, with a measure. -/
def LG {α : Type} (I : α → Prop) (m : α → Nat) (S : α → AS) : AS → Nat → Prop := fun σ k => ∃ a, I a ∧ k = m a ∧ σ = S a
theorem lg_init {α : Type} {I : α → Prop} {m : α → Nat} {S : α → AS} {σ : AS} (a : α) (hI : I a) (h : Weak σ (S a)) : ∃ σ' k, Weak σ σ' ∧ LG I m S σ' k := ⟨_, _, h, a, hI, rfl, rfl⟩
theorem lg_back {α : Type} {I : α → Prop} {m : α → Nat} {S : α → AS} {σ : AS} {k : Nat} (a : α) (hI : I a) (hk : m a < k) (h : Weak σ (S a)) : ∃ σ' k', Weak σ σ' ∧ k' < k ∧ LG I m S σ' k' := ⟨_, _, h, hk, a, hI, rfl, rfl⟩

theorem la_lit {m : Nat → Option Blk} {n : Nat} {v u : Value} (h : u = v) : LendA m n (.lit v) (.lit u) := by
  subst h
  cases u with
  | slice A a b => cases A <;> cases a <;> cases b <;> cases n <;> exact Or.inl rfl
  | _ => cases n <;> exact Or.inl rfl
theorem la_cell {m : Nat → Option Blk} {n : Nat} {x : AV} (h : x.isCell = true) : LendA m n x x := by
  cases x with
  | lit v => exact la_lit rfl
  | row o sz es => exact la_row rfl rfl
  | _ => cases h
theorem all2_cell {m : Nat → Option Blk} {n : Nat} : ∀ {xs : List AV}, xs.all AV.isCell = true → all2 (LendA m n) xs xs
  | [], _ => trivial
  | x :: xs, h => by
    simp only [List.all_cons, Bool.and_eq_true] at h
    exact ⟨la_cell h.1, all2_cell h.2⟩
theorem lend_same {m : Nat → Option Blk} {xs ys : List AV} (e : ys = xs) (h : ys.all AV.isCell = true) : LendT m (.agg xs) (.agg ys) := by subst e; exact all2_cell h
theorem la_bor {m : Nat → Option Blk} {n : Nat} {x : AV} (h : x.isCell = true) : LendA m n x.bor x := by
  cases x with
  | lit v => exact la_lit rfl
  | row o sz es => exact la_row rfl rfl
  | _ => cases h
theorem all2_bor {m : Nat → Option Blk} {n : Nat} : ∀ {xs : List AV}, xs.all AV.isCell = true → all2 (LendA m n) (xs.map AV.bor) xs
  | [], _ => trivial
  | x :: xs, h => by
    simp only [List.all_cons, Bool.and_eq_true] at h
    exact ⟨la_bor h.1, all2_bor h.2⟩
theorem lend_bor {m : Nat → Option Blk} {xs ys : List AV} (e : xs = ys.map AV.bor) (h : ys.all AV.isCell = true) : LendT m (.agg xs) (.agg ys) := by subst e; exact all2_bor h
theorem lend_dead {m : Nat → Option Blk} {t : T} : LendT m t .dead := by cases t <;> trivial
theorem la_loc' {m : Nat → Option Blk} {n s off len sz sz' : Nat} {o : Bool} {es es' : List (List AV)} (hm : m s = some (.row true sz es)) (h0 : sz' = sz) (h1 : off + len ≤ es.length) (h : es' = (es.drop off).take len) : LendA m n (.loc s off len) (.row o sz' es') := by
  subst h h0
  cases n <;> simp [LendA, hm, h1]
theorem la_fn {m : Nat → Option Blk} {n : Nat} {f f' : FuncId} {caps caps' : List AV} (h : f' = f) (h2 : all2 (LendA m n) caps caps') : LendA m (n + 1) (.fn f caps) (.fn f' caps') := ⟨h, h2⟩
theorem la_ptr {m : Nat → Option Blk} {n s j j' : Nat} {xs xs' : List AV} (hm : m s = some (.var xs)) (h : j' = j) (h1 : xs'.all AV.isFree = true) (h2 : all2 (LendA m n) xs xs') : LendA m (n + 1) (.ptr s j) (.bptr xs' j') := by
  subst h
  simp only [LendA, hm]
  first | exact ⟨rfl, h1, h2⟩ | exact ⟨trivial, h1, h2⟩
theorem la_bptr {m : Nat → Option Blk} {n j j' : Nat} {xs xs' : List AV} (h : xs' = xs) (h1 : j' = j) : LendA m n (.bptr xs j) (.bptr xs' j') := by cases n <;> exact ⟨h, h1⟩
theorem la_eptr {m : Nat → Option Blk} {n s i j j' : Nat} {sz : Nat} {es : List (List AV)} {e xs' : List AV} (hm : m s = some (.row true sz es)) (he : es[i]? = some e) (h : j' = j) (h1 : xs' = e.map AV.bor) : LendA m (n + 1) (.eptr s i j) (.bptr xs' j') := by
  simp only [LendA, hm]
  exact ⟨e, he, h, h1⟩
theorem at_mid {α : Type} {A B : List α} {x : α} {i : Nat} (h : A.length = i) : (A ++ x :: B)[i]? = some x := by subst h; simp
theorem set_mid {α : Type} {A B : List α} {x y : α} {i : Nat} (h : A.length = i) : A ++ y :: B = (A ++ x :: B).set i y := by subst h; simp
theorem at_eq {α : Type} {es A B : List α} {x : α} {i : Nat} (h : es = A ++ x :: B) (hl : A.length = i) : es[i]? = some x := by rw [h]; exact at_mid hl
theorem set_eq {α : Type} {es A B : List α} {x y : α} {i : Nat} (h : es = A ++ x :: B) (hl : A.length = i) : A ++ y :: B = es.set i y := by rw [h]; exact set_mid hl
theorem at_map {α β : Type} {f : α → β} {l : List α} {i : Nat} (h : i < l.length) : (l.map f)[i]? = some (f l[i]) := by simp [h]
theorem closeTs_nil {m : Nat → Option Blk} : closeTs m [] [] := trivial
theorem closeTs_cons {m : Nat → Option Blk} {x y : Bool × List AV} {xs ys : List (Bool × List AV)} (h0 : x.1 = y.1) (h : closeL m x.2 y.2) (h' : closeTs m xs ys) : closeTs m (x :: xs) (y :: ys) := ⟨h0, h, h'⟩
theorem nbRow_map {α : Type} {f : α → List AV} (h : ∀ x, (f x).all (AV.nb 5) = true) (l : List α) : nbRow (l.map f) = true := by
  simp only [nbRow, List.all_eq_true, List.mem_map, forall_exists_index, and_imp]
  rintro e x _ rfl
  exact List.all_eq_true.1 (h x)
theorem cell_only {l : List Nat} {x : AV} (h : x.isCell = true) : x.only l = true := by cases x <;> first | rfl | cases h
theorem onlyRow {l : List Nat} {es : List (List AV)} (h : cellRow es = true) : (es.all fun e => e.all (AV.only l)) = true := by
  simp only [cellRow, List.all_eq_true] at h
  simp only [List.all_eq_true]
  exact fun e he x hx => cell_only (h e he x hx)
theorem only_mid {l : List Nat} {p : Bool} {sz : Nat} {A B : List (List AV)} {e : List AV} (hA : cellRow A = true) (hB : cellRow B = true) (he : e.all (AV.only l) = true) : (Blk.row p sz (A ++ e :: B)).only l = true := by
  simp only [Blk.only, List.all_append, List.all_cons, Bool.or_eq_true, Bool.and_eq_true]
  exact .inr ⟨onlyRow hA, he, onlyRow hB⟩
theorem onm_cons {l : List Nat} {s : Nat} {k : Blk} {ml : List (Nat × Blk)} (h : k.only l = true) (h' : (ml.all fun p => p.2.only l) = true) : (((s, k) :: ml).all fun p => p.2.only l) = true := by simp [h, h']
theorem onm_nil {l : List Nat} : (([] : List (Nat × Blk)).all fun p => p.2.only l) = true := rfl
theorem allb_nil {α : Type} {p : α → Bool} : ([] : List α).all p = true := rfl
theorem allb_cons {α : Type} {p : α → Bool} {x : α} {xs : List α} (h : p x = true) (h' : xs.all p = true) : (x :: xs).all p = true := by simp [h, h']
theorem sf_nb {x : AV} (h : x.nb 5 = true) : (x.nb 5 || x.safe) = true := by rw [h]; rfl
theorem sf_rows {es : List (List AV)} (h : nbRow es = true) : (es.all fun e => e.all fun x => x.nb 5 || x.safe) = true := by
  simp only [nbRow, List.all_eq_true] at h
  simp only [List.all_eq_true]
  intro e he x hx
  rw [h e he x hx]; rfl
theorem sf_row {p : Bool} {sz : Nat} {es : List (List AV)} (h : nbRow es = true) : (Blk.row p sz es).safe = true := sf_rows h
theorem sf_mid {p : Bool} {sz : Nat} {A B : List (List AV)} {e : List AV} (hA : nbRow A = true) (hB : nbRow B = true) (he : (e.all fun x => x.nb 5 || x.safe) = true) : (Blk.row p sz (A ++ e :: B)).safe = true := by
  simp only [Blk.safe, List.all_append, List.all_cons, Bool.and_eq_true]
  exact ⟨sf_rows hA, he, sf_rows hB⟩
theorem sfm_cons {s : Nat} {k : Blk} {ml : List (Nat × Blk)} (h : k.safe = true) (h' : (ml.all fun p => p.2.safe) = true) : (((s, k) :: ml).all fun p => p.2.safe) = true := by simp [h, h']
theorem sfm_nil : (([] : List (Nat × Blk)).all fun p => p.2.safe) = true := rfl
theorem nbRows_cons {sz : Nat} {es : List (List AV)} {bs : List (Nat × List (List AV))} (h : nbRow es = true) (h' : nbRows bs = true) : nbRows ((sz, es) :: bs) = true := by simp only [nbRows, List.all_cons, Bool.and_eq_true]; exact ⟨h, h'⟩
theorem nbRows_nil : nbRows [] = true := rfl
theorem hasRows_nil {m : Nat → Option Blk} : hasRows m [] [] := trivial
theorem hasRows_cons {m : Nat → Option Blk} {s : Nat} {ss : List Nat} {b : Nat × List (List AV)} {bs : List (Nat × List (List AV))} (h : m s = some (.row true b.1 b.2)) (h' : hasRows m ss bs) : hasRows m (s :: ss) (b :: bs) := ⟨h, h'⟩
theorem rens_nil {ss : List Nat} : RenTs ss [] [] := trivial
theorem rens_cons {ss : List Nat} {x y : T} {xs ys : List T} (h : RenT ss x y) (h' : RenTs ss xs ys) : RenTs ss (x :: xs) (y :: ys) := ⟨h, h'⟩
theorem ren_one {ss : List Nat} {x y : AV} (h : RenA ss x y) : RenT ss (.one x) (.one y) := h
theorem ren_agg {ss : List Nat} {xs ys : List AV} (h : all2 (RenA ss) xs ys) : RenT ss (.agg xs) (.agg ys) := h
theorem ren_int {ss : List Nat} {k : IntKind} {a b : Int} (h : b = a) : RenA ss (.lit (.int k a)) (.lit (.int k b)) := by subst h; exact rfl
theorem nb_row5 {sz : Nat} {es : List (List AV)} (h : (es.all fun e => e.all (AV.nb 4)) = true) : (AV.row true sz es).nb 5 = true := h
/-- The arguments of a law: rows are named by their values, and told at places from 0 on. -/
def litA (u : Nat → Value) (i : Nat) : AV → AV
  | .row _ _ _ => .lit (u i)
  | x => x
def litL (u : Nat → Value) : Nat → List AV → List AV
  | _, [] => []
  | i, x :: xs => litA u i x :: litL u (i + 1) xs
def T.wid : T → Nat
  | .one _ => 1
  | .agg xs => xs.length
  | _ => 0
def litT (u : Nat → Value) (i : Nat) : T → T
  | .one x => .one (litA u i x)
  | .agg xs => .agg (litL u i xs)
  | t => t
def litTs (u : Nat → Value) : Nat → List T → List T
  | _, [] => []
  | i, t :: ts => litT u i t :: litTs u (i + t.wid) ts
def flatT : T → List AV
  | .one x => [x]
  | .agg xs => xs
  | _ => []
def flatTs : List T → List AV
  | [] => []
  | t :: ts => flatT t ++ flatTs ts
def parM (u : Nat → Value) (args : List T) (s : Nat) : Option Blk := match (flatTs args)[s]? with
  | some (.row o sz es) => some (.par (u s) (.row o sz es))
  | _ => none
def flatV : List T → List Value → List Value
  | .one _ :: ts, v :: vs => v :: flatV ts vs
  | .agg _ :: ts, .agg us :: vs => us.toList ++ flatV ts vs
  | _ :: ts, _ :: vs => flatV ts vs
  | _, _ => []

section
variable {P : Program} {w : World} {I : Nat → Prop}
theorem litA_ok {c : Ctx} (hc : ∀ b, I b → c.I b) {u : Nat → Value} {i : Nat} {x : AV} {v : Value} (h : R (c0 I) w x v) (hu : u i = v) : R c w (litA u i x) v := by
  have h' : R c w x v := h.mono (fun s j hs => by cases hs) hc (fun _ _ => rfl)
  cases x <;> first | exact h' | (subst hu; exact .lit _)
theorem litL_ok {c : Ctx} (hc : ∀ b, I b → c.I b) {u : Nat → Value} : ∀ {xs : List AV} {vs : List Value} {i : Nat}, RL (c0 I) w xs vs → (∀ j v, vs[j]? = some v → u (i + j) = v) → RL c w (litL u i xs) vs
  | [], [], _, _, _ => trivial
  | x :: xs, v :: vs, i, h, hu => ⟨⟨litA_ok hc h.1.1 (hu 0 v rfl), h.1.2⟩, litL_ok hc h.2 fun j v' hv => by have := hu (j + 1) v' (by simpa using hv); rw [show i + 1 + j = i + (j + 1) by omega]; exact this⟩
theorem litTs_ok {c : Ctx} (hc : ∀ b, I b → c.I b) {u : Nat → Value} : ∀ {ts : List T} {vs : List Value} {i : Nat}, (ts.all fun t => match t with | .one _ => true | .agg _ => true | _ => false) = true → RTL (c0 I) w ts vs → (∀ j v, (flatV ts vs)[j]? = some v → u (i + j) = v) → RTL c w (litTs u i ts) vs
  | [], [], _, _, _, _ => trivial
  | .one x :: ts, v :: vs, i, ha, h, hu => ⟨⟨litA_ok hc h.1.1 (hu 0 v rfl), h.1.2⟩, litTs_ok hc (by simpa using ha) h.2 fun j v' hv => by have := hu (j + 1) v' (by simpa [flatV] using hv); rw [show i + T.wid (.one x) + j = i + (j + 1) by simp only [T.wid]; omega]; exact this⟩
  | .agg xs :: ts, .agg us :: vs, i, ha, h, hu => ⟨litL_ok hc h.1 fun j v' hv => hu j v' (by simp only [flatV]; rw [List.getElem?_append_left (by exact (List.getElem?_eq_some_iff.1 hv).1)]; exact hv), litTs_ok hc (by simpa using ha) h.2 fun j v' hv => by
      have hl : xs.length = us.toList.length := RL.length h.1
      have := hu (us.toList.length + j) v' (by simp only [flatV]; rw [List.getElem?_append_right (by omega)]; simpa using hv)
      rw [show i + T.wid (.agg xs) + j = i + (us.toList.length + j) by simp only [T.wid]; omega]; exact this⟩
theorem flat_ok {c : Ctx} : ∀ {ts : List T} {vs : List Value}, (ts.all fun t => match t with | .one _ => true | .agg _ => true | _ => false) = true → RTL c w ts vs → RL c w (flatTs ts) (flatV ts vs)
  | [], [], _, _ => trivial
  | .one x :: ts, v :: vs, ha, h => ⟨h.1, flat_ok (by simpa using ha) h.2⟩
  | .agg xs :: ts, .agg us :: vs, ha, h => by
    simp only [flatTs, flatT, flatV]
    have h2 := flat_ok (ts := ts) (vs := vs) (by simpa using ha) h.2
    have key : ∀ {xs ys : List AV} {vs us : List Value}, RL c w xs vs → RL c w ys us → RL c w (xs ++ ys) (vs ++ us) := by
      intro xs
      induction xs with
      | nil => intro ys vs us h h'; cases vs with | nil => exact h' | cons => exact h.elim
      | cons x xs ih => intro ys vs us h h'; cases vs with | nil => exact h.elim | cons v vs => exact ⟨h.1, ih h.2 h'⟩
    exact key h.1 h2

/-- THE RULE OF A LAW: as the rule of a function; its arguments' rows are kept by their values over all that is written. -/
theorem law_of_vc {E : Tab} (hE : E.ok P) {f : FuncId} {fn : Func} {x : Code} {args : List T} {r : T} (hmix : P.follows .mixedOrders = true) (hf : P.funcs[f]? = some fn) (hb : fn.body = some x) (hname : (fn.name == "runtime.NumGoroutine") = false)
    (hok : okCode E fn.ntmps x = true) (hlen : args.length ≤ fn.ntmps) (hnb : r.nb = true) (ha : (args.all fun t => match t with | .one _ => true | .agg _ => true | _ => false) = true)
    (h : ∀ u : Nat → Value, vcCode P E x (fin E fn.results.toList r) (fun _ _ => False) (fin E fn.results.toList r) ⟨fun t => (litTs u 0 args).getD t .dead, parM u args⟩) : Fun1 P f args r := by
  refine ⟨⟨fn, hf, by simp [hb], hname⟩, hnb, fun w I vs hI hargs => ?_⟩
  let u : Nat → Value := fun i => (flatV args vs.toList).getD i default
  have hu : ∀ j v, (flatV args vs.toList)[j]? = some v → u j = v := fun j v hv => by simp [u, List.getD_eq_getElem?_getD, hv]
  let c : Ctx := ⟨fun s => if (parM u args s).isSome then some .nil else none, fun k => k < w.heap.size⟩
  have hargs' : RTL c w (litTs u 0 args) vs.toList := litTs_ok (c := c) hI ha hargs (fun j v hv => by rw [Nat.zero_add]; exact hu j v hv)
  have hll : ∀ {ts : List T} {i : Nat}, (litTs u i ts).length = ts.length := by
    intro ts
    induction ts with
    | nil => intro i; rfl
    | cons t ts ih => intro i; simp [litTs, ih]
  have hvl : vs.toList.length = args.length := by
    have : ∀ {ts : List T} {us : List Value}, RTL (c0 I) w ts us → us.length = ts.length := by
      intro ts
      induction ts with
      | nil => intro us h; cases us with | nil => rfl | cons => exact h.elim
      | cons t ts ih => intro us h; cases us with | nil => exact h.elim | cons u us => simp [ih h.2]
    exact this hargs
  have hat : ∀ {ts : List T} {us : List Value}, RTL c w ts us → ∀ t : Nat, RT c w (ts.getD t .dead) (us.getD t undef) := by
    intro ts
    induction ts with
    | nil => intro us h t; trivial
    | cons t ts ih =>
      intro us h k
      cases us with
      | nil => exact h.elim
      | cons u us =>
        cases k with
        | zero => exact h.1
        | succ k => exact ih h.2 k
  refine calls_of_wp hf hb ?_
  have hH : H w (fun _ => False) fn.ntmps ⟨fun t => (litTs u 0 args).getD t .dead, parM u args⟩ { tmps := vs ++ Array.replicate (fn.ntmps - vs.size) undef, defers := [] } w c (fun _ _ => False) := by
    have hvs : vs.size = args.length := by simpa using hvl
    refine { keeps := ⟨rfl, rfl, rfl, Nat.le_refl _, fun _ _ _ => rfl, Nat.le_refl _⟩, size := by simp; omega, defers := rfl, tm := fun t => ?_, mem := fun s k hk => ?_, dom := fun s hs => ?_, disj := fun _ _ _ h => h.elim, new := fun _ _ h => h.elim, imm := fun _ hk => hk, inn := fun _ _ h => h.elim, par := fun s v x hk => ?_ }
    · have := hat hargs' t
      by_cases ht : t < vs.size
      · have e : (vs ++ Array.replicate (fn.ntmps - vs.size) undef).getD t undef = vs.toList.getD t undef := by
          rw [Array.getD_eq_getD_getElem?, Array.getElem?_append_left ht]
          simp
        rw [e]; exact this
      · have e : (litTs u 0 args).getD t .dead = .dead := by rw [List.getD_eq_getElem?_getD, List.getElem?_eq_none (by rw [hll]; omega)]; rfl
        show RT _ _ ((litTs u 0 args).getD t .dead) _
        rw [e]; trivial
    · replace hk : parM u args s = some k := hk
      have hat0 : c.at_ s = some .nil := by simp [c, hk]
      unfold parM at hk
      split at hk
      · cases hk; exact ⟨hat0, fun _ h => h⟩
      · cases hk
    · replace hs : parM u args s = none := hs
      exact ⟨by simp [c, hs], fun _ h => h⟩
    · replace hk : parM u args s = some (.par v x) := hk
      unfold parM at hk
      split at hk
      · rename_i o sz es hg
        · cases hk
          refine ⟨rfl, ?_, fun k hk => hk.1⟩
          have hfl := flat_ok ha hargs
          have hi := (List.getElem?_eq_some_iff.1 hg).1
          have hl := RL.length hfl
          have hv : (flatV args vs.toList)[s]? = some ((flatV args vs.toList)[s]'(by omega)) := by simp
          have := (hfl.at hg hv).1
          rw [hu _ _ hv]
          exact R.free (c := c0 I) (fun b (hb : I b) => (show oldB w (fun _ => False) b from ⟨hI b hb, fun h => h⟩)) (fun _ _ => rfl) this rfl
      · cases hk
  have done : ∀ σ' a' w', Holds w (fun _ => False) fn.ntmps σ' a' w' → fin E fn.results.toList r σ' → a'.defers = [] ∧ ∃ V, (results fn a'.tmps).run P w' = .ok V w' ∧ ∃ v F, Ending.returned V = .returned v ∧ ROT' (c0 I) w' F r v ∧ (∀ k, F k → w.heap.size ≤ k ∧ k < w'.heap.size) ∧ Bel w.heap.size w w' := by
    rintro σ' a' w' ⟨c', F', h'⟩ hf'
    obtain ⟨V, h1, G, h2, h3⟩ := fin_ok hE h' hf'
    refine ⟨h'.defers, V, h1, V, G, rfl, h2.nb hnb, fun k hk => ?_, ⟨h'.keeps.os, h'.keeps.tape, h'.keeps.output, h'.keeps.size, fun k hk => h'.keeps.block k hk (fun h => h), h'.keeps.dr⟩⟩
    obtain ⟨s, hs⟩ := h3 k hk
    have := h'.new s k hs
    exact ⟨this.1.resolve_right (fun h => h), this.2⟩
  exact vc_ok hE hmix x (n := fn.ntmps) (w0 := w) (L := fun _ => False) hok (fun σ' a' w' h1 h2 => done σ' a' w' h1 h2) (fun _ _ _ _ _ h => h.elim) (fun σ' a' w' h1 h2 => done σ' a' w' h1 h2) (h u) ⟨_, _, hH⟩
end
/-- A row is nil, or it is not. -/
theorem fun1_nil {P : Program} {f : FuncId} {o : Bool} {sz : Nat} {es : List (List AV)} {rest : List T} {r : T} (h0 : es = [] → ∀ c, Fun1 P f (.one (.lit (.slice none 0 c)) :: rest) r) (h1 : Fun1 P f (.one (.nn sz es) :: rest) r) : Fun1 P f (.one (.row o sz es) :: rest) r := by
  refine ⟨h1.1, h1.2.1, fun w I vs hI hargs => ?_⟩
  generalize hvs : vs.toList = us at hargs
  cases us with
  | nil => exact hargs.elim
  | cons v us =>
    obtain ⟨⟨hR, hone⟩, hrest⟩ := hargs
    generalize hx : AV.row o sz es = x at hR
    cases hR with
    | @row own sz' es' A cap b o' vals a1 a2 a3 a4 a0 a5 a6 a7 =>
      cases hx
      cases A with
      | none =>
        have hes : es = [] := by
          rcases Nat.eq_zero_or_pos es.length with e | e
          · exact List.eq_nil_of_length_eq_zero e
          · have := (a3 e).1; cases this
        subst hes
        refine (h0 rfl cap).2.2 w I vs hI ?_
        rw [hvs]
        exact ⟨⟨.lit _, hone⟩, hrest⟩
      | some A =>
        refine h1.2.2 w I vs hI ?_
        rw [hvs]
        exact ⟨⟨.nn (R.anyOwn (o := o) (o' := false) (.row b o' vals a1 a2 a3 a4 a0 a5 a6 a7)), hone⟩, hrest⟩
    | _ => cases hx
/-- A nil slice is a row of no elements, at a place of its own. -/
theorem weak_nil {σ τ : AS} (t s sz : Nat) (ht : σ.tm t = .one (.lit (.slice none 0 0))) (hs : σ.mem s = none) (hw : Weak ⟨fun k => if k = t then .one (.loc s 0 0) else σ.tm k, (σ.add s (.row true sz [])).mem⟩ τ) : Weak σ τ := by
  rintro w0 L n a w ⟨c, F, h⟩
  have h1 := h.addSite' (s := s) (k := .row true sz []) (i := .nil) (G := fun _ => False) hs (fun _ hb => hb.elim) (fun _ _ hb => hb.elim) (.inl ⟨by simp [Ctx.add], rfl, fun _ h => h⟩)
  refine hw _ _ _ _ _ ⟨_, _, h1.keeps, h1.size, h1.defers, fun k => ?_, h1.mem, h1.dom, h1.disj, h1.new, h1.imm, h1.inn, h1.par⟩
  by_cases e : k = t
  · subst e
    have h2 := h.tm k
    rw [ht] at h2
    simp only [if_true]
    have h3 := one_lit h2
    rw [h3]
    exact ⟨.locnil (by simp [Ctx.add]), rfl⟩
  · simp only [if_neg e]
    exact h1.tm k
/-- A nil slice in a variable is a row of no elements, at a place of its own. -/
theorem weak_nilv {σ τ : AS} (r s sz : Nat) (xs ys : List AV) (hr : σ.mem r = some (.var (xs ++ .lit (.slice none 0 0) :: ys))) (hs : σ.mem s = none) (hw : Weak ((σ.add s (.row true sz [])).set r (.var (xs ++ .loc s 0 0 :: ys))) τ) : Weak σ τ := by
  rintro w0 L n a w ⟨c, F, h⟩
  have h1 := h.addSite' (s := s) (k := .row true sz []) (i := .nil) (G := fun _ => False) hs (fun _ hb => hb.elim) (fun _ _ hb => hb.elim) (.inl ⟨by simp [Ctx.add], rfl, fun _ h => h⟩)
  have hne : r ≠ s := fun e => by subst e; rw [hr] at hs; cases hs
  have hr' : (σ.add s (.row true sz [])).mem r = some (.var (xs ++ .lit (.slice none 0 0) :: ys)) := by simp only [AS.add, if_neg hne]; exact hr
  have hb := h1.mem r _ hr'
  refine hw _ _ _ _ _ ⟨_, _, h1.setBlk (k' := .var (xs ++ .loc s 0 0 :: ys)) hr' (fun _ h => h) (fun _ _ => rfl) rfl rfl rfl rfl ?_⟩
  obtain ⟨b, C, e, fz, a1, a2, a3, a4, a5⟩ := hb
  refine ⟨b, C, e, fz, a1, a2, a3, RL.of (by have := a4.length; simpa using this) fun i x v hx hv => ?_, a5⟩
  rcases get_mid hx with ⟨hi, hx⟩ | ⟨rfl, rfl⟩ | ⟨hi, hx⟩
  · exact a4.at (i := i) (by rw [List.getElem?_append_left hi]; exact hx) hv
  · have := a4.at (i := xs.length) (x := .lit (.slice none 0 0)) (by simp) hv
    have h2 := this.1
    cases h2
    exact ⟨.locnil (by simp [Ctx.add]), rfl⟩
  · exact a4.at (i := i) (by rw [List.getElem?_append_right (by omega), show i - xs.length = (i - xs.length - 1) + 1 by omega, List.getElem?_cons_succ]; exact hx) hv
end Go.Proofs.Ytlijeincckbdaaa
namespace Go.Proofs.Ytlijeincckbdaaa
open Go.RowKit
set_option linter.unusedSimpArgs false
set_option linter.unusedVariables false
set_option maxHeartbeats 2000000

section
variable {P : Program} {w0 w : World} {L : Nat → Prop} {n : Nat} {σ : AS} {a : Act} {c : Ctx} {F : Nat → Nat → Prop}

/-- A row as it lies in memory: its block b holds C; there is room for cap elements. -/
def RowH (w : World) (sz : Nat) (X : Value) (b : Nat) (C : Array Value) (m cap : Nat) : Prop :=
  (X = .slice none 0 0 ∧ m = 0 ∧ cap = 0 ∧ C = #[] ∧ b = w.heap.size) ∨
  ∃ e fz A, w.heap[b]? = some (.cells C e fz) ∧ Unfz sz C fz ∧ X = .slice A m cap ∧ (0 < cap → A = some ⟨b, 0, none⟩) ∧ m ≤ cap ∧ cap ≤ maxLen ∧ C.size = cap * sz

/-- THE GIVEN ROW, AND ITS RETURN: the new row's elements are those of the old one at π, or plain data. -/
theorem H.reRow (h : H w0 L n σ a w c F) {s sz : Nat} {es : List (List AV)} (hs : σ.mem s = some (.row true sz es)) {X : Value} (hX : R c w (.loc s 0 es.length) X) :
    ∃ b C cap, RowH w sz X b C es.length cap ∧ (∀ s2 b2 cap2 sz2, s2 ≠ s → c.at_ s2 = some (.row b2 cap2 sz2) → b2 ≠ b) ∧
      (∀ k, k < C.size → ∀ i j, k = i * sz + j → ∀ x, elt es i j = some x → ∃ v, C[k]? = some v ∧ v.oneCell' = true) ∧
      ∀ (w' : World) (A' : Option Addr) (b' cap' : Nat) (C' : Array Value) (e' : TypeId) (fz' : Nat × Nat) (es' : List (List AV)) (π : Nat → Option Nat), Keeps (fun k => k = b) w w' → w'.heap[b']? = some (.cells C' e' fz') → Unfz sz C' fz' →
        (b' = b ∨ w.heap.size ≤ b') → es'.length ≤ cap' → cap' ≤ maxLen → C'.size = cap' * sz → (0 < cap' → A' = some ⟨b', 0, none⟩) → (∀ e ∈ es', e.length = sz) → (∀ i i' p, π i = some p → π i' = some p → i = i') →
        (∀ i j x, elt es' i j = some x → (∃ p, π i = some p ∧ elt es p j = some x ∧ C'[i * sz + j]? = C[p * sz + j]?) ∨ (π i = none ∧ ∃ v, C'[i * sz + j]? = some v ∧ v.oneCell' = true ∧ R c w x v ∧ x.isData = true)) →
        ∃ c' F', H w0 L n ((σ.drop s).add s (.row true sz es')) a w' c' F' ∧ RT c' w' (.one (.loc s 0 es'.length)) (.slice A' es'.length cap') := by
  have hd := h.drop s
  have hnone : (σ.drop s).mem s = none := by simp [AS.drop]
  have hext : ∀ (si : SI) (J : Nat → Prop), (∀ s' i', (c.del s).at_ s' = some i' → ((c.del s).add s si J).at_ s' = some i') ∧ ∀ b, (c.del s).I b → ((c.del s).add s si J).I b := fun si J => Ctx.add_ext (by simp [Ctx.del]) si J
  -- the old row: its block, its cells, what it owns
  have hold : ∃ b C cap, ∃ G : Nat → Nat → Nat → Prop, RowH w sz X b C es.length cap ∧ ¬ c.I b ∧ (∀ s', s' ≠ s → ¬ F s' b) ∧ (b < w.heap.size → F s b) ∧ (∀ i j k, G i j k → F s k ∧ c.I k) ∧
      (∀ i j i' j' k, G i j k → G i' j' k → i = i' ∧ j = j') ∧ (∀ i j x, elt es i j = some x → ∃ v, C[i * sz + j]? = some v ∧ v.oneCell' = true ∧ RO c w (G i j) x v) ∧ (∀ i j k, G i j k → (elt es i j).isSome = true) := by
    rcases h.mem s _ hs with ⟨hat, rfl, hF0⟩ | ⟨b, cap, hat, hB⟩
    · have hX0 : X = .slice none 0 0 := by
        cases hX with
        | locnil => rfl
        | loc h1 => rw [hat] at h1; cases h1
      exact ⟨w.heap.size, #[], 0, fun _ _ _ => False, .inl ⟨hX0, rfl, rfl, rfl, rfl⟩, fun hI => by have := h.imm _ hI; omega, fun s' _ hF => by have := (h.new s' _ hF).2; omega, fun hlt => by omega, fun _ _ _ h => h.elim, fun _ _ _ _ _ h => h.elim, fun i j x hx => by simp [elt] at hx, fun _ _ _ h => h.elim⟩
    · obtain ⟨C, el, fz, G, a1, a2, a3, a4, a5, a6, a7, a8, a9, a10, a11, a12⟩ := hB
      have hFb : F s b := (a12 b).2 (.inl rfl)
      refine ⟨b, C, cap, G, .inr ⟨el, fz, ?_⟩, (h.top_not_I (.inr ⟨_, _, hat⟩)).2, fun s' hne hb' => hne (h.disj _ _ _ hb' hFb), fun _ => hFb, fun i j k hk => ?_, a10, fun i j x hx => ?_, a11⟩
      · generalize hq : es.length = q at hX
        cases hX with
        | locnil h1 => rw [hat] at h1; cases h1
        | @loc _ _ _ b' cap' sz' A h1 hle hA =>
          rw [hat] at h1; cases h1
          exact ⟨A, a1, a2, rfl, fun hc0 => by simpa using hA hc0, by rw [← hq]; exact a3, a4, a5⟩
      · have hFk : F s k := (a12 k).2 (.inr ⟨i, j, hk⟩)
        refine ⟨hFk, (h.inn s k hFk).2 ?_⟩
        rintro (ht | ⟨_, _, ht⟩)
        · rw [hat] at ht; cases ht
        · rw [hat] at ht; cases ht; exact a9 i j hk
      · obtain ⟨hi, hj⟩ := elt_lt a6 hx
        have hlt := fit_lt hi hj a3
        have hv : C[i * sz + j]? = some (C[i * sz + j]'(by omega)) := by simp
        exact ⟨_, hv, a7 i j x _ hx hv, (a8 i j x _ hx hv).resolve_right (by simp)⟩
  obtain ⟨b, C, cap, G, hR, hbI, hbF, hFb, hGF, hGd, hcell, hGs⟩ := hold
  refine ⟨b, C, cap, hR, fun s2 b2 cap2 sz2 hne hat2 he => ?_, fun k hk i j hkk x hx => ?_, ?_⟩
  · subst he
    exact hbF s2 hne (h.top_not_I (.inr ⟨_, _, hat2⟩)).1
  · obtain ⟨v, h1, h2, _⟩ := hcell i j x hx
    exact ⟨v, by rw [hkk]; exact h1, h2⟩
  intro w' A' b' cap' C' e' fz' es' π hk hC' hfz' hb' hfit' hm' hs' hA' hlens hinj hel
  have hI : ∀ q, c.I q → w'.heap[q]? = w.heap[q]? := fun q hq => hk.block q (h.imm q hq) fun e => by subst e; exact hbI hq
  have hb'I : ¬ c.I b' := fun hI' => by
    rcases hb' with rfl | hge
    · exact hbI hI'
    · have := h.imm _ hI'; omega
  have hb'F : ∀ s', s' ≠ s → ¬ F s' b' := fun s' hne hF => by
    rcases hb' with rfl | hge
    · exact hbF s' hne hF
    · have := (h.new s' _ hF).2; omega
  have hb'lt : b' < w'.heap.size := by
    rcases Nat.lt_or_ge b' w'.heap.size with e | e
    · exact e
    · simp [Array.getElem?_eq_none e] at hC'
  have hH0 : H w0 L n (σ.drop s) a w' (c.del s) (fun s' b => s' ≠ s ∧ F s' b) := hd.touch hk.os hk.tape hk.output hk.size hI (fun s' q hq => hk.block q (h.new s' q hq.2).2 fun e => by subst e; exact hbF s' hq.1 hq.2)
    (fun q hq hl => hk.block q (Nat.lt_of_lt_of_le hq h.keeps.size) fun e => by
      subst e
      rcases (h.new s _ (hFb (Nat.lt_of_lt_of_le hq h.keeps.size))).1 with h1 | h1
      · omega
      · exact hl h1) hk.dr
  let G' : Nat → Nat → Nat → Prop := fun i j k => (elt es' i j).isSome = true ∧ ∃ p, π i = some p ∧ G p j k
  have hG' : ∀ i j k, G' i j k → F s k ∧ c.I k := fun i j k ⟨_, p, _, hg⟩ => hGF p j k hg
  have hH := hH0.addSite' (s := s) (k := .row true sz es') (i := .row b' cap' sz) (G := fun k => k = b' ∨ ∃ i j, G' i j k) hnone
    (fun k hkk => by
      rcases hkk with rfl | ⟨i, j, hkk⟩
      · refine ⟨?_, hb'lt, fun s' hs' => hb'F s' hs'.1 hs'.2⟩
        rcases Nat.lt_or_ge k w.heap.size with hlt | hge
        · rcases hb' with rfl | hge
          · exact (h.new s _ (hFb hlt)).1
          · omega
        · exact .inl (Nat.le_trans h.keeps.size hge)
      · obtain ⟨h1, h2⟩ := hG' i j k hkk
        exact ⟨(h.new s k h1).1, Nat.lt_of_lt_of_le (h.new s k h1).2 hk.size, fun s' hs' => hs'.1 (h.disj _ _ _ hs'.2 h1)⟩)
    (fun k hkk _ hI' => by
      have hk' : k = b' := hkk
      subst hk'
      exact hb'I hI')
    (.inr ⟨b', cap', by simp [Ctx.add], C', e', fz', G', hC', hfz', hfit', hm', hs', hlens, fun i j x v hx hv => by
        rcases hel i j x hx with ⟨p, _, hp, hc⟩ | ⟨_, u, hu, h1, _⟩
        · obtain ⟨u, hu, h1, _⟩ := hcell p j x hp
          rw [hc, hu] at hv; cases hv; exact h1
        · rw [hu] at hv; cases hv; exact h1, fun i j x v hx hv => by
        rcases hel i j x hx with ⟨p, hπ, hp, hc⟩ | ⟨hπ, u, hu, _, h1, h2⟩
        · obtain ⟨u, hu, _, h1⟩ := hcell p j x hp
          rw [hc, hu] at hv; cases hv
          have hGe : G' i j = G p j := by
            funext k
            refine propext ⟨fun ⟨_, p', hp', hg⟩ => ?_, fun hg => ⟨by rw [hx]; rfl, p, hπ, hg⟩⟩
            rw [hπ] at hp'; cases hp'; exact hg
          rw [hGe]
          exact .inl (RO.ctx (c := c) (fun q hq => (hext _ _).2 q hq) (h1.mono (fun _ _ h => h) (fun _ h => h) hI fun q hq => hI q (hGF p j q hq).2))
        · rw [hu] at hv; cases hv
          refine .inl (.plain h2 ?_ fun k ⟨_, p, hp, _⟩ => by rw [hπ] at hp; cases hp)
          exact R.free (c := c) (fun q hq => (hext _ _).2 q hq) hI h1 (by cases x <;> simp_all [AV.isData, AV.isFree]),
      fun i j hg => hb'I (hG' i j b' hg).2, fun i j i' j' k ⟨_, p, hp, h1⟩ ⟨_, p', hp', h2⟩ => by
        obtain ⟨rfl, rfl⟩ := hGd _ _ _ _ _ h1 h2
        exact ⟨hinj _ _ _ hp hp', rfl⟩, fun i j k hg => hg.1, fun k => Iff.rfl⟩)
  refine ⟨_, _, hH, ?_, rfl⟩
  have := R.loc (c := (c.del s).add s (.row b' cap' sz) (fun k => (fun k => k = b' ∨ ∃ i j, G' i j k) k ∧ ¬ (SI.row b' cap' sz).isTop k)) (w := w') (s := s) (off := 0) (len := es'.length) (b := b') (cap := cap') (sz := sz) (A := A') (by simp [Ctx.add]) (by rw [Nat.zero_add]; exact hfit') (fun h0 => by simpa using hA' h0)
  simpa using this
end
end Go.Proofs.Ytlijeincckbdaaa
namespace Go.Proofs.Ytlijeincckbdaaa
open Go.RowKit
set_option linter.unusedSimpArgs false
set_option linter.unusedVariables false
set_option maxHeartbeats 2000000

section
variable {P : Program} {w0 w : World} {L : Nat → Prop} {n : Nat} {σ : AS} {a : Act} {c : Ctx} {F : Nat → Nat → Prop}

theorem run_copy_place {t ty e : TypeId} {i : TypeInfo} (ht : P.underlying t = some (.slice e)) (hi : P.info? e = some i)
    {g o dLen dCap : Nat} {cur : Array Value} {el : TypeId} {fz : Nat × Nat} (hg : w.heap[g]? = some (.cells cur el fz)) {sz : Nat} (hfz : Unfz sz cur fz)
    {a : Addr} {m c : Nat} {news : List Value} (hl : news.length = Nat.min m dLen * i.size) (hnews : ∀ j v, news[j]? = some v → w.cell? (a.add j) = some v) (h1 : ∀ u ∈ news, u.oneCell' = true)
    (hfit : o + news.length ≤ cur.size) :
    (Builtin.copy_ #[t, t] ty #[.slice (some ⟨g, o, none⟩) dLen dCap, .slice (some a) m c]).run P w =
      .ok (goInt (Nat.min m dLen)) (w.setRow g (cur.toList.take o ++ news ++ cur.toList.drop (o + news.length)).toArray) := by
  have hf := run_firstCells_some (P := P) w i.size (Nat.min m dLen) a m c news hl hnews
  have hst := run_storeCells_unfz P g o el fz news 0 cur w hg hfz (by simpa using hfit) h1
  simp only [Nat.add_zero] at hst
  simp only [Builtin.copy_, List.getElem?_toArray, List.getElem?_cons_zero, List.getElem?_cons_succ, run_underlying ht, sizeOf, typeInfo, hi, Builtin.lenOf, Sem.run_bind, Sem.run_pure, Result.andThen_ok, hf, hst, run_program]

/-- append(s, make([]T, q)...), where there is no room. -/
theorem run_append_grow_zeros (w : World) (t tn ty e : TypeId) (i : TypeInfo) (z : Value) (kn : IntKind) (ht : P.underlying t = some (.slice e)) (htn : P.underlying tn = some (.int kn)) (hi : P.info? e = some i) (hz : i.zero = some z)
    (b : Addr) (sLen sCap : Nat) (olds : List Value) (hlo : olds.length = sLen * i.size) (holds : ∀ j v, olds[j]? = some v → w.cell? (b.add j) = some v)
    (q : Nat) (qi : Int) (hqi : qi = (q : Nat)) (hq0 : 0 < q) (hs0 : 0 < i.size) (hg : sCap < sLen + q) (h63 : ((sLen + q : Nat) : Int) ≤ 9223372036854775807) (h48 : q * i.bytes ≤ 281474976710656) (hfit : Builtin.nextslicecap (sLen + q) sCap * i.bytes ≤ 281474976710656) :
    (Builtin.append_ #[t, tn] ty #[.slice (some b) sLen sCap, .int .i64 qi]).run P w =
      .ok (.slice (some ⟨w.heap.size, 0, none⟩) (sLen + q) (grownCap w (sLen + q) sCap e))
        (w.drew.alloc (.cells (olds.toArray ++ Builtin.zeroCells z.cells q ++ Builtin.zeroCells z.cells (grownCap w (sLen + q) sCap e - (sLen + q))) e)) := by
  subst hqi
  have hn : ¬ (sLen + q ≤ sCap) := by omega
  have hw : IntKind.i64.wrap (q : Int) = q := by rw [IntKind.wrap_i64]; omega
  have h63' : ¬ (9223372036854775807 < ((sLen : Int) + (q : Int))) := by omega
  have h48' : ¬ (281474976710656 < Builtin.nextslicecap (sLen + q) sCap * i.bytes) := by omega
  have h48i : ¬ (281474976710656 < (q : Int) * (i.bytes : Int)) := by
    rw [← Int.natCast_mul]
    omega
  have hneg : ¬ ((q : Int) < 0) := by omega
  have hns : ¬ (q * i.size = 0) := Nat.mul_ne_zero (by omega) (by omega)
  have hns1 : ¬ (q = 0) := by omega
  have hns2 : ¬ (i.size = 0) := by omega
  have hfo := run_firstCells_some (P := P) w.drew i.size sLen b sLen sCap olds hlo (by simpa using holds)
  simp [Builtin.append_, run_underlying ht, run_underlying htn, sizeOf, typeInfo, zeroValue, hi, hz, asInt, asIntOf, hw, hn, hneg, hns, hns1, hns2, h63', h48', h48i, Question.forced, hfo, newRow, grownCap]

theorem wp_copy_at (w : World) {o : Oper} {a : Act} {K : Act → World → Prop} {Q : Exit → Act → World → Prop} (d s : Operand) (t t' : TypeId)
    (ho : o.op = .call { callee := .builtin .copy, args := #[d, s], argTypes := #[t, t'] }) (v u : Value) (hd : a.eval d = v) (hs : a.eval s = u) {v' : Value} {w' : World}
    (hr : (Builtin.copy_ #[t, t'] o.type #[v, u]).run P w = .ok v' w') (h : K (a.put o.dst v') w') : o.wp P a w K Q := by
  unfold Oper.wp execOp
  simp only [ho, resolve, invoke, builtin, Sem.run_bind, Sem.run_pure, Result.andThen_ok, List.map_toArray, List.map_cons, List.map_nil, hd, hs, hr]
  exact h
/-- One copy of a walk, its run known. -/
theorem wpList_copy_at (w : World) {ops : Array Oper} {rest : List Oper} {o : Oper} {a : Act} {Q : Exit → Act → World → Prop} (hgd : o.guard = none) (d s : Operand) (t t' : TypeId)
    (ho : o.op = .call { callee := .builtin .copy, args := #[d, s], argTypes := #[t, t'] }) (v u : Value) (hd : a.eval d = v) (hs : a.eval s = u) {v' : Value} {w' : World}
    (hr : (Builtin.copy_ #[t, t'] o.type #[v, u]).run P w = .ok v' w') (h : wpList P ops Q rest (a.put o.dst v') w') : wpList P ops Q (o :: rest) a w :=
  wpList_plain hgd fun _ hK => wp_copy_at w d s t t' ho v u hd hs hr (hK _ _ h)
/-- .. and in a region that draws. -/
theorem step_copy_at {ops : Array Oper} {o : Oper} {a : Act} {w : World} {K : Act → World → Prop} {Q : Exit → Act → World → Prop} {E : Prop}
    (hg : o.guard = none) (d x : Operand) (dT sT : TypeId) (hop : o.op = Op.call { callee := Callee.builtin Builtin.copy, args := #[d, x], argTypes := #[dT, sT] })
    (v u : Value) (hd : a.eval d = v) (hx : a.eval x = u) {v' : Value} {w' : World} (hr : (Builtin.copy_ #[dT, sT] o.type #[v, u]).run P w = .ok v' w') (hK : K (a.put o.dst v') w') :
    if Region.wanted o (yielded ops a.tmps) = true then Oper.wp P o a w K Q else E := by
  rw [if_pos (by simp [Region.wanted, hg])]
  exact wp_copy_at w d x dT sT hop v u hd hx hr hK

theorem step_app_at {ops : Array Oper} {o : Oper} {a : Act} {w : World} {K : Act → World → Prop} {Q : Exit → Act → World → Prop} {E : Prop}
    (hg : o.guard = none) (d x : Operand) (dT sT : TypeId) (hop : o.op = Op.call { callee := Callee.builtin Builtin.append, args := #[d, x], argTypes := #[dT, sT] })
    (v u : Value) (hd : a.eval d = v) (hx : a.eval x = u) {v' : Value} {w' : World} (hr : (Builtin.append_ #[dT, sT] o.type #[v, u]).run P w = .ok v' w') (hK : K (a.put o.dst v') w') :
    if Region.wanted o (yielded ops a.tmps) = true then Oper.wp P o a w K Q else E := by
  rw [if_pos (by simp [Region.wanted, hg])]
  unfold Oper.wp execOp
  simp only [hop, resolve, invoke, builtin, Sem.run_bind, Sem.run_pure, Result.andThen_ok, List.map_toArray, List.map_cons, List.map_nil, hd, hx, hr]
  exact hK
theorem wpList_clear_at (w : World) {ops : Array Oper} {rest : List Oper} {o : Oper} {a : Act} {Q : Exit → Act → World → Prop} (hgd : o.guard = none) (d : Operand) (t : TypeId)
    (ho : o.op = .call { callee := .builtin .clear, args := #[d], argTypes := #[t] }) (v : Value) (hd : a.eval d = v) {v' : Value} {w' : World}
    (hr : (Builtin.clear_ #[t] o.type #[v]).run P w = .ok v' w') (h : wpList P ops Q rest (a.put o.dst v') w') : wpList P ops Q (o :: rest) a w :=
  wpList_plain hgd fun K hK => by
    unfold Oper.wp execOp
    simp only [ho, resolve, invoke, builtin, Sem.run_bind, Sem.run_pure, Result.andThen_ok, List.map_toArray, List.map_cons, List.map_nil, hd, hr]
    exact hK _ _ h

theorem zeroCells_one {z : Array Value} {q : Nat} (h : ∀ v ∈ z.toList, v.oneCell' = true) : ∀ v ∈ (Builtin.zeroCells z q).toList, v.oneCell' = true := by
  intro v hv
  simp only [Builtin.zeroCells, Array.toList_map, List.mem_map] at hv
  obtain ⟨k, hk, rfl⟩ := hv
  have hk' : k < q * z.size := by simpa using hk
  have hz : 0 < z.size := by rcases Nat.eq_zero_or_pos z.size with e | e; simp [e] at hk'; exact e
  have hm : k % z.size < z.size := Nat.mod_lt _ hz
  rw [getElem!_pos z _ hm]
  exact h _ (by simp)

theorem run_clear_place {t ty e : TypeId} {i : TypeInfo} {z : Value} (ht : P.underlying t = some (.slice e)) (hi : P.info? e = some i) (hz : i.zero = some z)
    {g o m cap : Nat} {cur : Array Value} {el : TypeId} {fz : Nat × Nat} (hg : w.heap[g]? = some (.cells cur el fz)) {sz : Nat} (hfz : Unfz sz cur fz) (hm : 0 < m) (h1 : ∀ v ∈ z.cells.toList, v.oneCell' = true) (hfit : o + m * z.cells.size ≤ cur.size) :
    (Builtin.clear_ #[t] ty #[.slice (some ⟨g, o, none⟩) m cap]).run P w =
      .ok (.tuple #[]) (w.setRow g (cur.toList.take o ++ (Builtin.zeroCells z.cells m).toList ++ cur.toList.drop (o + m * z.cells.size)).toArray) := by
  have hl : (Builtin.zeroCells z.cells m).toList.length = m * z.cells.size := by rw [Array.length_toList, size_zeroCells]
  have hst := run_storeCells_unfz P g o el fz (Builtin.zeroCells z.cells m).toList 0 cur w hg hfz (by rw [hl]; simpa using hfit) (zeroCells_one h1)
  simp only [Nat.add_zero, hl] at hst
  obtain ⟨q, rfl⟩ : ∃ q, m = q + 1 := ⟨m - 1, by omega⟩
  simp [Builtin.clear_, run_underlying ht, zeroValue, typeInfo, hi, hz, hst]

/-- slices.Insert, in memory: how it ends. -/
def InsQ (w : World) (sz b : Nat) (C : Array Value) (m k i : Nat) (news : List Value) (e : Ending) (w' : World) : Prop :=
  ∃ A' b' cap' C' e' fz', e = .returned (.slice A' (m + k) cap') ∧ Keeps (fun q => q = b) w w' ∧ w'.heap[b']? = some (.cells C' e' fz') ∧ Unfz sz C' fz' ∧
      (b' = b ∨ w.heap.size ≤ b') ∧ m + k ≤ cap' ∧ cap' ≤ maxLen ∧ C'.size = cap' * sz ∧ (0 < cap' → A' = some ⟨b', 0, none⟩) ∧ C'.toList.take ((m + k) * sz) = C.toList.take (i * sz) ++ news ++ (C.toList.drop (i * sz)).take ((m - i) * sz)
/-- slices.Insert, in memory. -/
def InsH (P : Program) (f : FuncId) (sz by_ : Nat) : Prop := Callable P f ∧
  ∀ (w : World) (X : Value) (b : Nat) (C : Array Value) (m cap i : Nat) (D : Array Value) (vb k vc : Nat) (eD : TypeId) (fzD : Nat × Nat) (news : List Value),
    RowH w sz X b C m cap → i ≤ m → 0 < k → w.heap[vb]? = some (.cells D eD fzD) → Unfz sz D fzD → k * sz ≤ D.size → news = D.toList.take (k * sz) → (∀ v ∈ news, v.oneCell' = true) →
    (∀ v ∈ C.toList.take (m * sz), v.oneCell' = true) → vb ≠ b → m + k ≤ maxLen → (m + k) * by_ ≤ 140737488355328 →
    Calls P f #[X, .int .i64 i, .slice (some ⟨vb, 0, none⟩) k vc] w (InsQ w sz b C m k i news)
/-- slices.Delete of one element, in memory. -/
def DelH (P : Program) (f : FuncId) (sz : Nat) : Prop := Callable P f ∧
  ∀ (w : World) (X : Value) (b : Nat) (C : Array Value) (m cap i : Nat), RowH w sz X b C m cap → i < m → (∀ v ∈ C.toList.take (m * sz), v.oneCell' = true) →
    Calls P f #[X, .int .i64 i, .int .i64 ((i : Int) + 1)] w fun e w' => ∃ A' C' e' fz', e = .returned (.slice A' (m - 1) cap) ∧ Keeps (fun q => q = b) w w' ∧ w'.heap[b]? = some (.cells C' e' fz') ∧ Unfz sz C' fz' ∧
      C'.size = cap * sz ∧ A' = some ⟨b, 0, none⟩ ∧ C'.toList.take ((m - 1) * sz) = C.toList.take (i * sz) ++ (C.toList.drop ((i + 1) * sz)).take ((m - 1 - i) * sz)

theorem take_get {C : Array Value} {l : List Value} {n k : Nat} (h : C.toList.take n = l) (hk : k < n) : C[k]? = l[k]? := by
  rw [← h, List.getElem?_take, if_pos hk]; simp

theorem elt_get {es : List (List AV)} {i j : Nat} {x : AV} (h : elt es i j = some x) : i < es.length := by
  unfold elt at h
  rcases Nat.lt_or_ge i es.length with e | e
  · exact e
  · simp [List.getElem?_eq_none e] at h

theorem mul_lt {i j m sz : Nat} (hi : i < m) (hj : j < sz) : i * sz + j < m * sz := fit_lt hi hj (Nat.le_refl _)

theorem ones_row {sz : Nat} {C : Array Value} {es : List (List AV)} {m : Nat} (hm : es.length = m) (hl : ∀ e ∈ es, e.length = sz) (hc : ∀ i j x, elt es i j = some x → ∃ v, C[i * sz + j]? = some v ∧ v.oneCell' = true) : ∀ v ∈ C.toList.take (m * sz), v.oneCell' = true := by
  intro v hv
  obtain ⟨k, hk, rfl⟩ := List.mem_iff_getElem.1 hv
  have hk' : k < m * sz := by simp at hk; omega
  have hsz : 0 < sz := by rcases Nat.eq_zero_or_pos sz with e | e; simp [e] at hk'; exact e
  have hi : k / sz < es.length := by rw [hm]; exact (Nat.div_lt_iff_lt_mul hsz).2 hk'
  have hj : k % sz < (es[k / sz]).length := by rw [hl _ (List.getElem_mem hi)]; exact Nat.mod_lt _ hsz
  obtain ⟨v, h1, h2⟩ := hc (k / sz) (k % sz) (es[k / sz][k % sz]) (by simp [elt, hi, hj])
  have hdm : k / sz * sz + k % sz = k := by have := Nat.div_add_mod k sz; rw [Nat.mul_comm] at this; exact this
  rw [hdm] at h1
  have : (C.toList.take (m * sz))[k] = v := by
    rw [List.getElem_take]
    have := (Array.getElem?_eq_some_iff.1 h1).2
    simpa using this
  rw [this]; exact h2

/-- The elements of a row that is owned. -/
theorem H.ownRow (h : H w0 L n σ a w c F) {s sz : Nat} {es : List (List AV)} (hs : σ.mem s = some (.row true sz es)) (h0 : 0 < es.length) {X : Value} (hX : R c w (.loc s 0 es.length) X) :
    ∃ b D e fz vc, X = .slice (some ⟨b, 0, none⟩) es.length vc ∧ w.heap[b]? = some (.cells D e fz) ∧ Unfz sz D fz ∧ es.length * sz ≤ D.size ∧ c.top s b ∧ (∀ e ∈ es, e.length = sz) ∧
      ∀ i j x, elt es i j = some x → ∃ v, D[i * sz + j]? = some v ∧ v.oneCell' = true ∧ R c w x v := by
  rcases h.mem s _ hs with ⟨_, rfl, _⟩ | ⟨b, cap, hat, hB⟩
  · simp at h0
  · have hB0 := hB
    obtain ⟨C, el, fz, G, a1, a2, a3, a4, a5, a6, a7, a8, a9, a10, a11, a12⟩ := hB
    generalize hq : es.length = q at hX
    cases hX with
    | locnil h1 => rw [hat] at h1; cases h1
    | @loc _ _ _ b' cap' sz' A h1 hle hA =>
      rw [hat] at h1; cases h1
      have := hA (by omega)
      simp only [Nat.zero_mul] at this
      subst this
      rw [← hq]
      refine ⟨b, C, el, fz, _, rfl, a1, a2, ?_, .inr ⟨_, _, hat⟩, a6, fun i j x hx => ?_⟩
      · rw [a5]; exact Nat.mul_le_mul_right _ a3
      · obtain ⟨hi, hj⟩ := elt_lt a6 hx
        have hlt := fit_lt hi hj a3
        have hv : C[i * sz + j]? = some (C[i * sz + j]'(by omega)) := by simp
        refine ⟨_, hv, a7 i j x _ hx hv, ((a8 i j x _ hx hv).resolve_right (by simp)).read fun k hk => ?_⟩
        have hFk : F s k := (a12 k).2 (.inr ⟨i, j, hk⟩)
        refine (h.inn s k hFk).2 ?_
        rintro (ht | ⟨_, _, ht⟩)
        · rw [hat] at ht; cases ht
        · rw [hat] at ht; cases ht; exact a9 i j hk
end
end Go.Proofs.Ytlijeincckbdaaa
namespace Go.Proofs.Ytlijeincckbdaaa
open Go.RowKit
set_option linter.unusedSimpArgs false
set_option linter.unusedVariables false
set_option maxHeartbeats 2000000

section
variable {P : Program} {w0 w : World} {L : Nat → Prop} {n : Nat} {σ : AS} {a : Act} {c : Ctx} {F : Nat → Nat → Prop}

theorem elt_app {A B : List (List AV)} {i j : Nat} {x : AV} (h : elt (A ++ B) i j = some x) : (i < A.length ∧ elt A i j = some x) ∨ (A.length ≤ i ∧ elt B (i - A.length) j = some x) := elt_append h
theorem elt_take {A : List (List AV)} {q i j : Nat} {x : AV} (h : elt (A.take q) i j = some x) : i < q ∧ elt A i j = some x := by
  unfold elt at h ⊢
  rw [List.getElem?_take] at h
  split at h
  · exact ⟨by assumption, h⟩
  · simp at h
theorem elt_drop {A : List (List AV)} {q i j : Nat} {x : AV} (h : elt (A.drop q) i j = some x) : elt A (q + i) j = some x := by
  unfold elt at h ⊢
  rw [List.getElem?_drop] at h
  exact h

/-- slices.Insert(s, i, v...): s's row is handed back with v's elements among its own. -/
theorem ins_ok {f : FuncId} {sz by_ s s2 i : Nat} {es vs : List (List AV)} {x y z : Operand} (hf : InsH P f sz by_) (hx : σ.get x = .one (.loc s 0 es.length)) (hs : σ.mem s = some (.row true sz es)) (hy : σ.get y = .one (.lit (.int .i64 i))) (hi : i ≤ es.length)
    (hz : σ.get z = .one (.loc s2 0 vs.length)) (hs2 : σ.mem s2 = some (.row true sz vs)) (h0 : 0 < vs.length) (hne : s2 ≠ s) (hcv : cellRow vs = true) (hmx : es.length + vs.length ≤ maxLen) (hby : (es.length + vs.length) * by_ ≤ 140737488355328) :
    CallOk P f [x, y, z] σ ((σ.drop s).add s (.row true sz (es.take i ++ (vs.map fun e => e.map AV.bor) ++ es.drop i))) (.one (.loc s 0 (es.length + vs.length))) := by
  refine ⟨hf.1, fun w0 L n a w ⟨c, F, h⟩ => ?_⟩
  have gx := h.get x
  have gy := h.get y
  have gz := h.get z
  rw [hx] at gx; rw [hy] at gy; rw [hz] at gz
  obtain ⟨b, C, cap, hR, htop, hcell, hre⟩ := h.reRow hs gx.1
  obtain ⟨vb, D, eD, fzD, vc, hZ, hD, hfD, hkD, htop2, hlv, hcv2⟩ := h.ownRow hs2 h0 gz.1
  have hvb : vb ≠ b := by
    rcases htop2 with ht | ⟨cap2, sz2, ht⟩
    · rcases h.mem s2 _ hs2 with ⟨hat, _⟩ | ⟨b2, cap2, hat, _⟩
      · rw [hat] at ht; cases ht
      · rw [hat] at ht; cases ht
    · exact htop s2 vb cap2 sz2 hne ht
  have hle : ∀ e ∈ es, e.length = sz := by
    rcases h.mem s _ hs with ⟨_, rfl, _⟩ | ⟨_, _, _, C', e, fz, G, a1, a2, a3, a4, a5, a6, _⟩
    · simp
    · exact a6
  have hgy := one_lit gy
  show Calls P f [a.eval x, a.eval y, a.eval z].toArray w _
  rw [hZ, hgy]
  have hCs : es.length * sz ≤ C.size := by
    rcases hR with ⟨_, hm, _, _, _⟩ | ⟨_, _, _, _, _, _, _, hm, _, hsz⟩
    · rw [hm]; simp
    · rw [hsz]; exact Nat.mul_le_mul_right _ hm
  have hones := ones_row (C := C) (m := es.length) rfl hle fun p j x hx => by
    obtain ⟨hp, hj⟩ := elt_lt hle hx
    have := mul_lt (sz := sz) hp hj
    exact hcell (p * sz + j) (by omega) p j rfl x hx
  have hnl : (D.toList.take (vs.length * sz)).length = vs.length * sz := by simp; omega
  refine (hf.2 w (a.eval x) b C es.length cap i D vb vs.length vc eD fzD _ hR hi h0 hD hfD hkD rfl (ones_row rfl hlv fun i j x hx => by obtain ⟨v, h1, h2, _⟩ := hcv2 i j x hx; exact ⟨v, h1, h2⟩) hones hvb hmx hby).mono ?_
  rintro e w' ⟨A', b', cap', C', e', fz', rfl, hK, hC', hfz', hb', hfit, hm', hs', hA', ht⟩
  have hlen : (es.take i ++ (vs.map fun e => e.map AV.bor) ++ es.drop i).length = es.length + vs.length := by simp; omega
  have hti : (C.toList.take (i * sz)).length = i * sz := by
    have := Nat.mul_le_mul_right sz hi
    simp; omega
  have get1 : ∀ q, q < i * sz → C'[q]? = C[q]? := fun q hq => by
    have := Nat.mul_le_mul_right sz (show i ≤ es.length + vs.length by omega)
    rw [take_get ht (by omega), List.append_assoc, List.getElem?_append_left (by omega), List.getElem?_take, if_pos hq]; simp
  have get2 : ∀ q, q < vs.length * sz → C'[i * sz + q]? = D[q]? := fun q hq => by
    have h3 : i * sz + vs.length * sz ≤ (es.length + vs.length) * sz := by rw [← Nat.add_mul]; exact Nat.mul_le_mul_right _ (by omega)
    rw [take_get ht (by omega), List.append_assoc, List.getElem?_append_right (by omega), hti, Nat.add_sub_cancel_left, List.getElem?_append_left (by omega), List.getElem?_take, if_pos hq]; simp
  have get3 : ∀ q, q < (es.length - i) * sz → C'[(i + vs.length) * sz + q]? = C[i * sz + q]? := fun q hq => by
    have h3 : (i + vs.length) * sz + (es.length - i) * sz = (es.length + vs.length) * sz := by rw [← Nat.add_mul]; congr 1; omega
    have h4 : (i + vs.length) * sz = i * sz + vs.length * sz := Nat.add_mul _ _ _
    rw [take_get ht (by omega), List.getElem?_append_right (by simp only [List.length_append, hti, hnl]; omega)]
    simp only [List.length_append, hti, hnl]
    rw [show (i + vs.length) * sz + q - (i * sz + vs.length * sz) = q by omega, List.getElem?_take, if_pos hq, List.getElem?_drop]; simp
  obtain ⟨c', F', h1, h2⟩ := hre w' A' b' cap' C' e' fz' (es.take i ++ (vs.map fun e => e.map AV.bor) ++ es.drop i) (fun q => if q < i then some q else if q < i + vs.length then none else some (q - vs.length)) hK hC' hfz' hb' (by omega) hm' hs' hA'
    (fun e he => by
      rcases List.mem_append.1 he with he | he
      · rcases List.mem_append.1 he with he | he
        · exact hle e (List.mem_of_mem_take he)
        · obtain ⟨e', h1, rfl⟩ := List.mem_map.1 he; simpa using hlv e' h1
      · exact hle e (List.mem_of_mem_drop he))
    (fun q q' p hq hq' => by
      try dsimp only at hq hq'
      split at hq <;> split at hq' <;> (try split at hq) <;> (try split at hq') <;> simp only [Option.some.injEq, reduceCtorEq] at hq hq' <;> omega)
    (fun q j x hx => by
      try dsimp only
      rcases elt_app hx with ⟨hq, hx⟩ | ⟨hq, hx⟩
      · rcases elt_app hx with ⟨hq2, hx⟩ | ⟨hq2, hx⟩
        · obtain ⟨hq3, hx⟩ := elt_take hx
          obtain ⟨_, hj⟩ := elt_lt hle hx
          exact .inl ⟨q, by rw [if_pos hq3], hx, get1 _ (mul_lt hq3 hj)⟩
        · obtain ⟨y, hy, rfl⟩ := elt_map hx
          simp only [List.length_take, Nat.min_eq_left hi] at hy hq2
          obtain ⟨hq4, hj⟩ := elt_lt hlv hy
          obtain ⟨v, h3, h4, h5⟩ := hcv2 _ _ _ hy
          refine .inr ⟨by rw [if_neg (by omega), if_pos (by omega)], v, ?_, h4, h5.bor, bor_data (cellRow_elt hcv hy)⟩
          rw [show q * sz + j = i * sz + ((q - i) * sz + j) by rw [← Nat.add_assoc, ← Nat.add_mul]; congr 2; omega, get2 _ (mul_lt hq4 hj)]
          exact h3
      · simp only [List.length_append, List.length_take, List.length_map, Nat.min_eq_left hi] at hq hx
        have hx := elt_drop hx
        obtain ⟨hp, hj⟩ := elt_lt hle hx
        refine .inl ⟨q - vs.length, by rw [if_neg (by omega), if_neg (by omega)], by rw [show q - vs.length = i + (q - (i + vs.length)) by omega]; exact hx, ?_⟩
        have h6 := get3 ((q - (i + vs.length)) * sz + j) (mul_lt (by omega) hj)
        rw [← Nat.add_assoc, ← Nat.add_mul, ← Nat.add_assoc, ← Nat.add_mul] at h6
        rw [show q - vs.length = i + (q - (i + vs.length)) by omega]
        rw [show i + vs.length + (q - (i + vs.length)) = q by omega] at h6
        exact h6)
  rw [hlen] at h2
  exact ⟨_, c', F', rfl, h1, h2⟩

/-- slices.Delete(s, i, i+1): s's row is handed back without its element i. -/
theorem del_ok {f : FuncId} {sz s i : Nat} {es : List (List AV)} {x y z : Operand} (hf : DelH P f sz) (hx : σ.get x = .one (.loc s 0 es.length)) (hs : σ.mem s = some (.row true sz es)) (hy : σ.get y = .one (.lit (.int .i64 i))) (hi : i < es.length)
    (hz : σ.get z = .one (.lit (.int .i64 ((i : Int) + 1)))) :
    CallOk P f [x, y, z] σ ((σ.drop s).add s (.row true sz (es.take i ++ es.drop (i + 1)))) (.one (.loc s 0 (es.length - 1))) := by
  refine ⟨hf.1, fun w0 L n a w ⟨c, F, h⟩ => ?_⟩
  have gx := h.get x
  have gy := h.get y
  have gz := h.get z
  rw [hx] at gx; rw [hy] at gy; rw [hz] at gz
  obtain ⟨b, C, cap, hR, htop, hcell, hre⟩ := h.reRow hs gx.1
  have hle : ∀ e ∈ es, e.length = sz := by
    rcases h.mem s _ hs with ⟨_, rfl, _⟩ | ⟨_, _, _, C', e, fz, G, a1, a2, a3, a4, a5, a6, _⟩
    · simp
    · exact a6
  have hgy := one_lit gy
  have hgz := one_lit gz
  show Calls P f [a.eval x, a.eval y, a.eval z].toArray w _
  rw [hgz, hgy]
  have hCs : es.length * sz ≤ C.size ∧ es.length ≤ cap ∧ cap ≤ maxLen := by
    rcases hR with ⟨_, hm, hc, _, _⟩ | ⟨_, _, _, _, _, _, _, hm, hcm, hsz⟩
    · rw [hm, hc]; simp
    · rw [hsz]; exact ⟨Nat.mul_le_mul_right _ hm, hm, hcm⟩
  have hones := ones_row (C := C) (m := es.length) rfl hle fun p j x hx => by
    obtain ⟨hp, hj⟩ := elt_lt hle hx
    have := mul_lt (sz := sz) hp hj
    exact hcell (p * sz + j) (by omega) p j rfl x hx
  refine (hf.2 w (a.eval x) b C es.length cap i hR hi hones).mono ?_
  rintro e w' ⟨A', C', e', fz', rfl, hK, hC', hfz', hs', hA', ht⟩
  have hlen : (es.take i ++ es.drop (i + 1)).length = es.length - 1 := by simp; omega
  have hti : (C.toList.take (i * sz)).length = i * sz := by
    have := Nat.mul_le_mul_right sz (Nat.le_of_lt hi)
    simp; omega
  have get1 : ∀ q, q < i * sz → C'[q]? = C[q]? := fun q hq => by
    have := Nat.mul_le_mul_right sz (show i ≤ es.length - 1 by omega)
    rw [take_get ht (by omega), List.getElem?_append_left (by omega), List.getElem?_take, if_pos hq]; simp
  have get3 : ∀ q, q < (es.length - 1 - i) * sz → C'[i * sz + q]? = C[(i + 1) * sz + q]? := fun q hq => by
    have h3 : i * sz + (es.length - 1 - i) * sz = (es.length - 1) * sz := by rw [← Nat.add_mul]; congr 1; omega
    rw [take_get ht (by omega), List.getElem?_append_right (by omega), hti, Nat.add_sub_cancel_left, List.getElem?_take, if_pos hq, List.getElem?_drop]; simp
  obtain ⟨c', F', h1, h2⟩ := hre w' A' b cap C' e' fz' (es.take i ++ es.drop (i + 1)) (fun q => if q < i then some q else some (q + 1)) hK hC' hfz' (.inl rfl) (by omega) hCs.2.2 hs' (fun _ => hA')
    (fun e he => by
      rcases List.mem_append.1 he with he | he
      · exact hle e (List.mem_of_mem_take he)
      · exact hle e (List.mem_of_mem_drop he))
    (fun q q' p hq hq' => by
      try dsimp only at hq hq'
      split at hq <;> split at hq' <;> simp only [Option.some.injEq, reduceCtorEq] at hq hq' <;> omega)
    (fun q j x hx => by
      try dsimp only
      rcases elt_app hx with ⟨hq, hx⟩ | ⟨hq, hx⟩
      · obtain ⟨hq3, hx⟩ := elt_take hx
        obtain ⟨_, hj⟩ := elt_lt hle hx
        exact .inl ⟨q, by rw [if_pos hq3], hx, get1 _ (mul_lt hq3 hj)⟩
      · simp only [List.length_take, Nat.min_eq_left (Nat.le_of_lt hi)] at hq hx
        have hx := elt_drop hx
        obtain ⟨hp, hj⟩ := elt_lt hle hx
        refine .inl ⟨q + 1, by rw [if_neg (by omega)], by rw [show q + 1 = i + 1 + (q - i) by omega]; exact hx, ?_⟩
        have h6 := get3 ((q - i) * sz + j) (mul_lt (by omega) hj)
        rw [← Nat.add_assoc, ← Nat.add_mul, ← Nat.add_assoc, ← Nat.add_mul] at h6
        rw [show q + 1 = i + 1 + (q - i) by omega]
        rw [show i + (q - i) = q by omega] at h6
        exact h6)
  rw [hlen] at h2
  exact ⟨_, c', F', rfl, h1, h2⟩
end
end Go.Proofs.Ytlijeincckbdaaa
namespace Go.Proofs.Ytlijeincckbdaaa
open Go.RowKit
set_option linter.unusedSimpArgs false
set_option linter.unusedVariables false
set_option maxHeartbeats 2000000

section
variable {P : Program} {w0 w : World} {L : Nat → Prop} {n : Nat} {σ : AS} {a : Act} {c : Ctx} {F : Nat → Nat → Prop} {E : Tab}

/-- An act with another's temporaries behind its own. -/
def ext (g : Array Value) (a : Act) : Act := { a with tmps := a.tmps ++ g }
def HoldsG (g : Array Value) (w0 : World) (L : Nat → Prop) (n : Nat) (σ : AS) (a : Act) (w : World) : Prop :=
  a.tmps.size = n ∧ Holds w0 L (n + g.size) σ (ext g a) w

theorem ext_get (g : Array Value) {a : Act} {t : Nat} (h : t < a.tmps.size) : (ext g a).tmps[t]? = a.tmps[t]? := by
  simp only [ext]; rw [Array.getElem?_append_left h]
theorem ext_eval (g : Array Value) {a : Act} {x : Operand} (h : ∀ t, x = .tmp t → t < a.tmps.size) : (ext g a).eval x = a.eval x := by
  cases x with
  | tmp t =>
    have := ext_get g (h t rfl)
    simp only [Act.eval, Array.getD_eq_getD_getElem?, this]
  | _ => rfl
theorem ext_put (g : Array Value) {a : Act} {d : Option Nat} {V : Value} (h : ∀ k, d = some k → k < a.tmps.size) : ext g (a.put d V) = (ext g a).put d V := by
  cases d with
  | none => rfl
  | some k =>
    have hk := h k rfl
    simp only [ext, Act.put]
    congr 1
    rw [Array.setIfInBounds_append_left hk]
theorem put_size (a : Act) (d : Option Nat) (V : Value) : (a.put d V).tmps.size = a.tmps.size := by
  cases d with
  | none => rfl
  | some k => simp [Act.put]
theorem ext_yielded (g : Array Value) {ops : Array Oper} {a : Act} (h : OpsIn a.tmps.size ops) (j : Nat) : yielded ops (ext g a).tmps j = yielded ops a.tmps j := by
  unfold yielded
  cases hj : ops[j]? with
  | none => rfl
  | some o =>
    simp only [Option.bind_some]
    cases hd : o.dst with
    | none => rfl
    | some t => simp only [Option.bind_some]; rw [ext_get g ((h j o hj).1 t hd)]
theorem ext_wanted (g : Array Value) {ops : Array Oper} {a : Act} (h : OpsIn a.tmps.size ops) (o : Oper) : Region.wanted o (yielded ops (ext g a).tmps) = Region.wanted o (yielded ops a.tmps) := by
  rw [show yielded ops (ext g a).tmps = yielded ops a.tmps from funext (ext_yielded g h)]

theorem opn_noSelect {site : Nat} {op : Op} {gt : Operand → T} {m : Nat → Option Blk} {K : T → News → Prop} (h : opn P E site op gt m K) : ∀ cs b, op ≠ .select cs b := by
  intro cs b e
  subst e
  exact h

theorem ext_exec (g : Array Value) {a : Act} {o : Oper} (h : OpIn a.tmps.size o) (hs : ∀ cs b, o.op ≠ .select cs b) : execOp (ext g a).eval o = execOp a.eval o :=
  execOp_congr o hs fun x hx => ext_eval g fun t ht => h.2 t (ht ▸ hx)

theorem wp_ext (g : Array Value) {o : Oper} (ho : OpIn a.tmps.size o) (hs : ∀ cs b, o.op ≠ .select cs b) {K K' : Act → World → Prop} {QQ : Exit → Act → World → Prop} (h : o.wp P (ext g a) w K (fun _ _ _ => False)) (hK : ∀ V w', K ((ext g a).put o.dst V) w' → K' (a.put o.dst V) w')
    (hd : ∀ d w', ¬ K ({ ext g a with defers := d :: (ext g a).defers }.put o.dst undef) w') : o.wp P a w K' QQ := by
  unfold Oper.wp at h ⊢
  rw [ext_exec g ho hs] at h
  generalize (execOp a.eval o).run P w = r at h ⊢
  cases r with
  | ok nx w' =>
    cases nx <;> simp only [Oper.upon] at h ⊢
    case value V => exact hK V w' h
    case skip => exact hK _ w' h
    case defer d => exact (hd _ _ h).elim
    case enter f args =>
      refine Calls.mono h fun e w'' he => ?_
      cases e with
      | returned u => exact hK u w'' he
      | panicked c => exact he.elim
      | outgrown => obtain ⟨_, _, h⟩ := he; exact h.elim
    case row row args => exact Rows.mono h fun u w'' he => hK u w'' he
  | halt x w' =>
    cases x <;> simp only [Oper.upon] at h ⊢

theorem put_defers' (a : Act) (d : Option Nat) (V : Value) : (a.put d V).defers = a.defers := by cases d <;> rfl

theorem sim_ghost (hE : E.ok P) (g : Array Value) : Sim P E n (HoldsG g w0 L n) where
  eff := by
    rintro σ a w o K ho ⟨hsz, c, F, h⟩ hk
    intro K' QQ hK
    have hs : ∀ cs b, o.op ≠ .select cs b := fun cs b e => by
      unfold ope at hk; rw [e] at hk; exact hk
    have hin : OpIn a.tmps.size o := by rw [hsz]; exact ho
    refine wp_ext g hin hs (ope_ok hE h hk (fun a1 w' => ∃ σ1 v, K σ1 v ∧ Holds w0 L (n + g.size) (σ1.put o.dst v) a1 w') _ fun σ1 v V w' c' F' h1 h3 h4 => ⟨σ1, v, h1, c', F', h3.put (fun k hk => Nat.lt_of_lt_of_le (ho.1 k hk) (by omega)) h4⟩) (fun V w' ⟨σ1, v, h1, hh⟩ => hK σ1 v V w' h1 ⟨by rw [put_size]; exact hsz, by rw [ext_put g hin.1]; exact hh⟩) ?_
    rintro d w' ⟨σ1, v, _, c', F', hh⟩
    have := hh.defers
    rw [put_defers'] at this
    cases this
  quiet := by
    rintro ops σ a w m i o d hops ⟨hsz, c, F, h⟩ hm ho hd K QQ hK
    have hin : OpIn a.tmps.size o := by rw [hsz]; exact hops i o ho
    have hops' : OpsIn a.tmps.size ops := by rw [hsz]; exact hops
    have h1 := step_ok hE (P := P) (K := fun a1 w' => Holds w0 L (n + g.size) (app o d σ) a1 w') (QQ := fun _ _ _ => False) h hm ho (fun k hk => Nat.lt_of_lt_of_le ((hops i o ho).1 k hk) (by omega)) hd fun a' w' h' => h'
    have fin : ∀ V w', Holds w0 L (n + g.size) (app o d σ) ((ext g a).put o.dst V) w' → K (a.put o.dst V) w' := fun V w' hh => hK _ _ ⟨by rw [put_size]; exact hsz, by rw [ext_put g hin.1]; exact hh⟩
    unfold wpOp at h1 ⊢
    simp only [ho] at h1 ⊢
    rw [ext_wanted g hops'] at h1
    split
    · rename_i hw
      rw [if_pos hw] at h1
      rcases h1 with h1 | ⟨_, _, _, h1⟩
      · refine .inl (wp_ext g hin ?_ h1 fin ?_)
        · cases d with
          | none =>
            have h3 := skips_ok h (show skips ops σ o from hd)
            rw [ext_wanted g hops', hw] at h3
            cases h3
          | some d =>
            obtain ⟨v, news⟩ := d
            exact opn_noSelect hd.2.1
        · rintro d w' ⟨c', F', hh⟩
          have := hh.defers
          rw [put_defers'] at this
          cases this
      · exact h1.elim
    · rename_i hw
      rw [if_neg hw] at h1
      exact fin _ _ h1
  first := by
    rintro σ a w m o K ho ⟨hsz, c, F, h⟩ hsup he hk
    obtain ⟨v, V, h1, h2, h3⟩ := early_ok hE h hsup he hk
    have hin : OpIn a.tmps.size o := by rw [hsz]; exact ho
    refine ⟨v, V, h1, fun w' => ?_, by rw [put_size]; exact hsz, c, F, ?_⟩
    · have := h2 w'
      rw [ext_exec g hin (opn_noSelect hk)] at this
      exact this
    · rw [ext_put g hin.1]
      exact h.put (fun k hk => Nat.lt_of_lt_of_le (ho.1 k hk) (by omega)) h3
  test := by
    rintro σ a w q b hq ⟨hsz, c, F, h⟩ hb
    have hg := h.get q
    rw [hb] at hg
    have := one_lit hg
    rwa [ext_eval g fun t ht => by rw [hsz]; exact hq t ht] at this
  drew := fun ⟨hsz, c, F, h⟩ => ⟨hsz, c, F, h.drawn⟩
  weak := fun hw ⟨hsz, h⟩ => ⟨hsz, hw _ _ _ _ _ h⟩
  there := fun ⟨_, c, F, h⟩ q => h.there q

/-- The state of a call that is walked in the caller's state: its own temporaries, behind them the caller's. -/
def AS.enter (σ : AS) (n : Nat) (args : List T) : AS := ⟨fun k => if k < n then args.getD k .dead else σ.tm (k - n), σ.mem⟩
def AS.leave (σ : AS) (n : Nat) : AS := ⟨fun k => σ.tm (k + n), σ.mem⟩
/-- What is to hold where it returns: the result, the caller's state. -/
def finI (n r : Nat) (v : Value) (τ : AS) (σ : AS) : Prop := σ.tm r = .one (.lit v) ∧ Weak (σ.leave n) τ

/-- A CALL, WALKED IN THE CALLER'S STATE. -/
theorem inl_ok (hE : E.ok P) {f : FuncId} {fn : Func} {x : Code} {args : List Operand} {r : Nat} {v : Value} {τ : AS} (hmix : P.follows .mixedOrders = true) (hf : P.funcs[f]? = some fn) (hb : fn.body = some x) (hname : (fn.name == "runtime.NumGoroutine") = false)
    (hok : okCode E fn.ntmps x = true) (hlen : args.length ≤ fn.ntmps) (hres : fn.results = #[.tmp r]) (hr : r < fn.ntmps) (hv : v.oneCell' = true)
    (h : vcCode P E x (finI fn.ntmps r v τ) (fun _ _ => False) (finI fn.ntmps r v τ) (σ.enter fn.ntmps (args.map σ.get))) : CallOk P f args σ τ (.one (.lit v)) := by
  refine ⟨⟨fn, hf, by simp [hb], hname⟩, fun w0 L n a w ⟨c, F, hH⟩ => ?_⟩
  refine calls_of_wp hf hb ?_
  have hsz : ((args.map a.eval).toArray ++ Array.replicate (fn.ntmps - (args.map a.eval).toArray.size) undef).size = fn.ntmps := by simp; omega
  have hH0 : HoldsG a.tmps w0 L fn.ntmps (σ.enter fn.ntmps (args.map σ.get)) { tmps := (args.map a.eval).toArray ++ Array.replicate (fn.ntmps - (args.map a.eval).toArray.size) undef, defers := [] } w := by
    refine ⟨hsz, c, F, ?_⟩
    refine { keeps := hH.keeps, size := by simp only [ext, Array.size_append, hsz], defers := rfl, tm := fun t => ?_, mem := hH.mem, dom := hH.dom, disj := hH.disj, new := hH.new, imm := hH.imm, inn := hH.inn, par := hH.par }
    show RT c w (if t < fn.ntmps then (args.map σ.get).getD t .dead else σ.tm (t - fn.ntmps)) ((_ ++ a.tmps).getD t undef)
    split
    · rename_i ht
      rw [Array.getD_eq_getD_getElem?, Array.getElem?_append_left (by rw [hsz]; exact ht)]
      by_cases h2 : t < args.length
      · rw [Array.getElem?_append_left (by simpa using h2)]
        simp only [List.getD_eq_getElem?_getD, List.getElem?_map, List.getElem?_toArray]
        rw [List.getElem?_eq_getElem h2]
        exact hH.get _
      · rw [List.getD_eq_getElem?_getD, List.getElem?_eq_none (by simpa using h2)]
        trivial
    · rename_i ht
      have := hH.tm (t - fn.ntmps)
      rw [Array.getD_eq_getD_getElem?, Array.getElem?_append_right (by rw [hsz]; omega), hsz]
      rw [Array.getD_eq_getD_getElem?] at this
      exact this
  have done : ∀ σ' a' w', HoldsG a.tmps w0 L fn.ntmps σ' a' w' → finI fn.ntmps r v τ σ' → a'.defers = [] ∧ ∃ V, (results fn a'.tmps).run P w' = .ok V w' ∧ ∃ V0 c' F', Ending.returned V = .returned V0 ∧ H w0 L n τ a w' c' F' ∧ RT c' w' (.one (.lit v)) V0 := by
    rintro σ' a' w' ⟨hs', c', F', h'⟩ ⟨h1, h2⟩
    have hr' := h'.tm r
    rw [h1] at hr'
    have hV := one_lit hr'
    have hr2 : (ext a.tmps a').tmps.getD r undef = a'.tmps.getD r undef := by
      rw [Array.getD_eq_getD_getElem?, Array.getD_eq_getD_getElem?, ext_get a.tmps (by omega)]
    rw [hr2] at hV
    have hleave : H w0 L n (σ'.leave fn.ntmps) a w' c' F' := by
      refine { keeps := h'.keeps, size := hH.size, defers := hH.defers, tm := fun t => ?_, mem := h'.mem, dom := h'.dom, disj := h'.disj, new := h'.new, imm := h'.imm, inn := h'.inn, par := h'.par }
      have := h'.tm (t + fn.ntmps)
      simp only [ext] at this
      rw [Array.getD_eq_getD_getElem?, Array.getElem?_append_right (by omega), hs', show t + fn.ntmps - fn.ntmps = t by omega] at this
      rw [Array.getD_eq_getD_getElem?]
      exact this
    obtain ⟨c2, F2, h3⟩ := h2 _ _ _ _ _ ⟨c', F', hleave⟩
    refine ⟨h'.defers, v, ?_, v, c2, F2, rfl, h3, RT_lit _ hv⟩
    unfold results
    rw [hres]
    have hV' : a'.tmps[r]?.getD undef = v := by rw [← Array.getD_eq_getD_getElem?]; exact hV
    simp [hV']
  exact vc_sim (sim_ghost hE a.tmps) hmix x (n := fn.ntmps) hok (fun σ' a' w' h1 h2 => done σ' a' w' h1 h2) (fun _ _ _ _ _ h => h.elim) (fun σ' a' w' h1 h2 => done σ' a' w' h1 h2) h hH0
end
end Go.Proofs.Ytlijeincckbdaaa
namespace Go.Proofs.Ytlijeincckbdaaa
open Go.RowKit
set_option linter.unusedSimpArgs false
set_option linter.unusedVariables false
set_option maxHeartbeats 2000000

section
variable {P : Program} {w0 w : World} {L : Nat → Prop} {n : Nat} {σ : AS} {a : Act} {c : Ctx} {F : Nat → Nat → Prop} {E : Tab}

/-- The top block of a variable is written, and there are new blocks. -/
theorem H.setVar (h : H w0 L n σ a w c F) {w' : World} {s b : Nat} {k k' : Blk} (hs : σ.mem s = some k) (hat : c.at_ s = some (.var b)) (hFs : ∀ k, F s k ↔ k = b)
    (hw : Keeps (fun k => k = b) w w') (hk : BlkOk c w' (F s) s k') (hkp : k'.isArg = false := by rfl) : H w0 L n (σ.set s k') a w' c F := by
  have hnI : ¬ c.I b := (h.top_not_I (s := s) (b := b) (.inl hat)).2
  have hI : ∀ q, c.I q → w'.heap[q]? = w.heap[q]? := fun q hq => hw.block q (h.imm q hq) fun e => hnI (e ▸ hq)
  have hF : ∀ s', s' ≠ s → ∀ q, F s' q → w'.heap[q]? = w.heap[q]? := fun s' hne q hq => hw.block q (h.new s' q hq).2 fun e => hne (h.disj _ _ _ hq ((hFs q).2 e))
  refine ⟨h.keeps.step hw.os hw.tape hw.output hw.size (fun q hq hl => hw.block q (Nat.lt_of_lt_of_le hq h.keeps.size) fun e => ?_) hw.dr, h.size, h.defers, fun t => (h.tm t).mono (fun _ _ h => h) (fun _ h => h) hI, fun s' k1 hk1 => ?_, fun s' hs' => ?_, h.disj, fun s' q hq => ⟨(h.new s' q hq).1, Nat.lt_of_lt_of_le (h.new s' q hq).2 hw.size⟩, fun q hq => Nat.lt_of_lt_of_le (h.imm q hq) hw.size, h.inn, fun s' v x hs' => by
    by_cases e : s' = s
    · subst e; simp [AS.set] at hs'; subst hs'; cases hkp
    · simp [AS.set, e] at hs'; exact h.par s' v x hs'⟩
  · rcases (h.new s q ((hFs q).2 e)).1 with h1 | h1
    · omega
    · exact hl h1
  · by_cases e : s' = s
    · subst e
      simp [AS.set] at hk1
      subst hk1
      exact hk
    · simp [AS.set, e] at hk1
      exact (h.mem s' k1 hk1).mono (fun _ _ h => h) (fun _ h => h) hI (hF s' e)
  · have e : s' ≠ s := fun e => by subst e; simp [AS.set] at hs'
    simp [AS.set, e] at hs'
    exact h.dom s' hs'

/-- THE CONTRACT of a function that is handed a pointer to a variable: pre and post are the variable's cells. -/
def PtrF (P : Program) (f : FuncId) (pars : List (Value × AV)) (pre post : List Value) (args : List T) (r : T) : Prop :=
  Callable P f ∧ r.nb = true ∧ post.all (·.oneCell') = true ∧
  ∀ (w : World) (b : Nat) (C : Array Value) (e : TypeId) (fz : Nat × Nat) (vs : Array Value), w.heap[b]? = some (.cells C e fz) → Unfz 1 C fz → C.toList = pre →
    (∀ p ∈ pars, R ⟨fun _ => none, fun k => k < w.heap.size ∧ ¬ k = b⟩ w p.2 p.1) → RTL (c0 fun k => k < w.heap.size ∧ ¬ k = b) w args vs.toList →
    Calls P f ((Value.pointer (some ⟨b, 0, none⟩)) :: vs.toList).toArray w fun e w' => ∃ V G C' e' fz', e = .returned V ∧ ROT' (c0 fun _ => False) w' G r V ∧ (∀ k, G k → w.heap.size ≤ k ∧ k < w'.heap.size) ∧
      w'.heap[b]? = some (.cells C' e' fz') ∧ Unfz 1 C' fz' ∧ C'.toList = post ∧ Keeps (fun k => k = b) w w'

theorem ptr_ok {f : FuncId} {pars : List (Value × AV)} {pre post : List Value} {us : List T} {r : T} {x : Operand} {args : List Operand} {s : Nat} (site : Nat) (hf : PtrF P f pars pre post us r) (hx : σ.get x = .one (.ptr s 0)) (hs : σ.mem s = some (.var (pre.map .lit)))
    (hl : LendTs (σ.drop s).mem (args.map (σ.drop s).get) us) (hp : ∀ p ∈ pars, ∃ q, σ.mem q = some (.par p.1 p.2)) (hfr : Fresh (σ.set s (.var (post.map .lit))).mem (openT site r).2) :
    CallOk P f (x :: args) σ ((σ.set s (.var (post.map .lit))).adds (openT site r).2) (openT site r).1 := by
  refine ⟨hf.1, fun w0 L n a w ⟨c, F, h⟩ => ?_⟩
  obtain ⟨_, hnb, hone, hcall⟩ := hf
  have gx := h.get x
  rw [hx] at gx
  obtain ⟨gx, _⟩ := gx
  obtain ⟨b, C, e, fz, hat, hC, hfz, hR, hFb⟩ := h.mem s _ hs
  obtain ⟨hCv, _⟩ := RL.lits_eq hR
  generalize hX : a.eval x = X at gx
  cases gx with | @ptr _ _ b2 hat2 =>
  rw [hat] at hat2; cases hat2
  have hd := h.drop s
  have hb : b < w.heap.size := (h.new s b ((hFb b).2 rfl)).2
  have hbI : ¬ c.I b := (h.top_not_I (s := s) (b := b) (.inl hat)).2
  have hargs : RTL (c.del s) w (args.map (σ.drop s).get) (args.map a.eval) := by
    have : ∀ l : List Operand, RTL (c.del s) w (l.map (σ.drop s).get) (l.map a.eval) := by
      intro l
      induction l with
      | nil => trivial
      | cons x l ih => exact ⟨hd.get x, ih⟩
    exact this args
  have hlend := RTL.lend hd (Sup.refl _) hargs hl
  have hmono : ∀ {ts : List T} {vs : List Value}, RTL (c0 (lentI0 (c.del s) (fun s' b => s' ≠ s ∧ F s' b) (oldB w0 L))) w ts vs → RTL (c0 fun k => k < w.heap.size ∧ ¬ k = b) w ts vs := by
    have hsub : ∀ k, lentI0 (c.del s) (fun s' b => s' ≠ s ∧ F s' b) (oldB w0 L) k → k < w.heap.size ∧ ¬ k = b := fun k hk => by
      rcases hk with hk | ⟨s', hne, hk⟩ | hk
      · exact ⟨h.imm k hk, fun e => hbI (e ▸ hk)⟩
      · exact ⟨(h.new s' k hk).2, fun e => hne (h.disj _ _ _ hk ((hFb k).2 e))⟩
      · exact ⟨Nat.lt_of_lt_of_le hk.1 h.keeps.size, fun e => h.old_not hk ((hFb k).2 e)⟩
    intro ts
    induction ts with
    | nil => intro vs h; cases vs with | nil => trivial | cons => exact h.elim
    | cons t ts ih => intro vs h; cases vs with | nil => exact h.elim | cons v vs => exact ⟨RT.mono (c := c0 (lentI0 (c.del s) (fun s' b => s' ≠ s ∧ F s' b) (oldB w0 L))) (c' := c0 fun k => k < w.heap.size ∧ ¬ k = b) (fun _ _ h => h) hsub (fun _ _ => rfl) h.1, ih h.2⟩
  have hpars : ∀ p ∈ pars, R ⟨fun _ => none, fun k => k < w.heap.size ∧ ¬ k = b⟩ w p.2 p.1 := fun p hpm => by
    obtain ⟨q, hq⟩ := hp p hpm
    obtain ⟨a2, a3, _⟩ := h.par q _ _ hq
    exact R.free (c' := ⟨fun _ => none, fun k => k < w.heap.size ∧ ¬ k = b⟩) (fun k (hk : oldB w0 L k) => ⟨Nat.lt_of_lt_of_le hk.1 h.keeps.size, fun e => h.old_not hk ((hFb k).2 e)⟩) (fun k (hk : oldB w0 L k) => h.keeps.block k hk.1 hk.2) a3 a2
  have := hcall w b C e fz (args.map a.eval).toArray hC hfz hCv hpars (hmono (by simpa using hlend))
  rw [List.map_cons, hX]
  refine this.mono ?_
  rintro e1 w' ⟨V, G, C', e', fz', rfl, hr, hG, hC', hfz', hpost, hkeep⟩
  have hH : H w0 L n (σ.set s (.var (post.map .lit))) a w' c F := by
    refine h.setVar hs hat hFb hkeep ⟨b, C', e', fz', hat, hC', hfz', ?_, hFb⟩
    rw [hpost]
    exact RL.lits c w' post hone
  have hsp : Spare w0 w' c F G := fun k hk => by
    have := hG k hk
    exact ⟨Nat.le_trans h.keeps.size this.1, this.2, fun s' hs' => by have := (h.new s' k hs').2; omega, fun hI => by have := h.imm k hI; omega⟩
  obtain ⟨c', F', h1, h2⟩ := openT_ok hH (s := site) hsp hfr (hr.nb (c' := c) hnb)
  exact ⟨V, c', F', rfl, h1, h2⟩

/-- Where such a function's walk begins. -/
def memP (b : Nat) (pars : List (Value × AV)) (pre : List Value) (s : Nat) : Option Blk :=
  match s with
  | 0 => some (.var (pre.map .lit))
  | s + 1 => match pars[s]? with
    | some p => some (.par p.1 p.2)
    | none => if s = 7 then some (.pin 0 (.var b)) else none
def finP (E : Tab) (b : Nat) (rs : List ResultVar) (post : List Value) (r : T) (σ : AS) : Prop :=
  fin E rs r (σ.drop 0) ∧ σ.mem 0 = some (.var (post.map .lit)) ∧ σ.mem 8 = some (.pin 0 (.var b))

theorem ptrf_of_vc (hE : E.ok P) {f : FuncId} {fn : Func} {x : Code} {pars : List (Value × AV)} {pre post : List Value} {args : List T} {r : T} (hmix : P.follows .mixedOrders = true) (hf : P.funcs[f]? = some fn) (hb : fn.body = some x) (hname : (fn.name == "runtime.NumGoroutine") = false)
    (hok : okCode E fn.ntmps x = true) (hlen : args.length + 1 ≤ fn.ntmps) (hnb : r.nb = true) (hone0 : pre.all (·.oneCell') = true) (hone : post.all (·.oneCell') = true) (hp7 : pars.length ≤ 7) (hpf : (pars.all fun p => p.2.isFree) = true)
    (h : ∀ b : Nat, vcCode P E x (finP E b fn.results.toList post r) (fun _ _ => False) (finP E b fn.results.toList post r) ⟨fun t => (T.one (.ptr 0 0) :: args).getD t .dead, memP b pars pre⟩) : PtrF P f pars pre post args r := by
  refine ⟨⟨fn, hf, by simp [hb], hname⟩, hnb, hone, fun w b C e fz vs hC hfz hpre hpars hargs => ?_⟩
  have hbl : b < w.heap.size := by
    rcases Nat.lt_or_ge b w.heap.size with h1 | h1
    · exact h1
    · simp [Array.getElem?_eq_none h1] at hC
  let c : Ctx := ⟨fun s => if s = 0 then some (.var b) else if (memP b pars pre s).isSome then some .nil else none, fun k => k < w.heap.size ∧ ¬ k = b⟩
  let F : Nat → Nat → Prop := fun s k => s = 0 ∧ k = b
  have hlit : ∀ {vs : List Value} {c1 : Ctx}, RTL (c0 fun k => k < w.heap.size ∧ ¬ k = b) w args vs → RTL c w args vs := by
    intro vs _
    generalize args = ts
    induction ts generalizing vs with
    | nil => intro h; cases vs with | nil => trivial | cons => exact h.elim
    | cons t ts ih => intro h; cases vs with | nil => exact h.elim | cons v vs => exact ⟨RT.mono (c := c0 fun k => k < w.heap.size ∧ ¬ k = b) (c' := c) (fun _ _ h => by cases h) (fun _ h => h) (fun _ _ => rfl) h.1, ih h.2⟩
  have hall : RTL c w (T.one (.ptr 0 0) :: args) (Value.pointer (some ⟨b, 0, none⟩) :: vs.toList) := ⟨⟨.ptr rfl, rfl⟩, hlit (c1 := c) hargs⟩
  have hlen2 : ∀ {ts : List T} {us : List Value}, RTL c w ts us → us.length = ts.length := by
    intro ts
    induction ts with
    | nil => intro us h; cases us with | nil => rfl | cons => exact h.elim
    | cons t ts ih => intro us h; cases us with | nil => exact h.elim | cons u us => simp [ih h.2]
  have hvl := hlen2 hall
  have hat : ∀ {ts : List T} {us : List Value}, RTL c w ts us → ∀ t : Nat, RT c w (ts.getD t .dead) (us.getD t undef) := by
    intro ts
    induction ts with
    | nil => intro us h t; trivial
    | cons t ts ih =>
      intro us h k
      cases us with
      | nil => exact h.elim
      | cons u us =>
        cases k with
        | zero => exact h.1
        | succ k => exact ih h.2 k
  refine calls_of_wp hf hb ?_
  generalize hus : Value.pointer (some ⟨b, 0, none⟩) :: vs.toList = us at hall hvl
  have hH : H w (fun k => k = b) fn.ntmps ⟨fun t => (T.one (.ptr 0 0) :: args).getD t .dead, memP b pars pre⟩ { tmps := us.toArray ++ Array.replicate (fn.ntmps - us.toArray.size) undef, defers := [] } w c F := by
    refine { keeps := ⟨rfl, rfl, rfl, Nat.le_refl _, fun _ _ _ => rfl, Nat.le_refl _⟩, size := by simp at hvl ⊢; omega, defers := rfl, tm := fun t => ?_, mem := fun s k hk => ?_, dom := fun s hs => ?_, disj := fun s s' k h1 h2 => h1.1.trans h2.1.symm, new := fun s k hk => ⟨.inr hk.2, by rw [hk.2]; exact hbl⟩, imm := fun k hk => hk.1, inn := fun s k hk => ?_, par := fun s v y hk => ?_ }
    · have := hat hall t
      by_cases ht : t < us.length
      · rw [Array.getD_eq_getD_getElem?, Array.getElem?_append_left (by simpa using ht)]
        rw [List.getD_eq_getElem?_getD, List.getD_eq_getElem?_getD] at this
        simpa [List.getD_eq_getElem?_getD] using this
      · have e : (T.one (.ptr 0 0) :: args).getD t .dead = .dead := by rw [List.getD_eq_getElem?_getD, List.getElem?_eq_none (by omega)]; rfl
        show RT _ _ ((T.one (.ptr 0 0) :: args).getD t .dead) _
        rw [e]; trivial
    · replace hk : memP b pars pre s = some k := hk
      cases s with
      | zero =>
        simp only [memP, Option.some.injEq] at hk
        subst hk
        refine ⟨b, C, e, fz, rfl, hC, hfz, ?_, fun k => by simp [F]⟩
        rw [hpre]
        exact RL.lits c w pre hone0
      | succ s =>
        have hat0 : c.at_ (s + 1) = some .nil := by simp [c, hk]
        have hF0 : ∀ k, ¬ F (s + 1) k := fun k hk => by simp [F] at hk
        simp only [memP] at hk
        split at hk
        · cases hk; exact ⟨hat0, hF0⟩
        · split at hk <;> cases hk
          exact ⟨hat0, hF0, rfl⟩
    · replace hs : memP b pars pre s = none := hs
      have h0 : s ≠ 0 := fun e => by subst e; simp [memP] at hs
      exact ⟨by simp [c, hs, h0], fun k hk => h0 hk.1⟩
    · obtain ⟨rfl, rfl⟩ := hk
      exact ⟨fun h => absurd rfl h.2, fun h => absurd (.inl rfl) h⟩
    · replace hk : memP b pars pre s = some (.par v y) := hk
      cases s with
      | zero => simp [memP] at hk
      | succ s =>
        simp only [memP] at hk
        split at hk
        · rename_i p hp
          cases hk
          have hpm := List.mem_of_getElem? hp
          exact ⟨List.all_eq_true.1 hpf p hpm, hpars p hpm, fun k hk => hk⟩
        · split at hk <;> cases hk
  have done : ∀ σ' a' w', Holds w (fun k => k = b) fn.ntmps σ' a' w' → finP E b fn.results.toList post r σ' → a'.defers = [] ∧ ∃ V, (results fn a'.tmps).run P w' = .ok V w' ∧ ∃ V0 G C' e' fz', Ending.returned V = .returned V0 ∧ ROT' (c0 fun _ => False) w' G r V0 ∧ (∀ k, G k → w.heap.size ≤ k ∧ k < w'.heap.size) ∧
      w'.heap[b]? = some (.cells C' e' fz') ∧ Unfz 1 C' fz' ∧ C'.toList = post ∧ Keeps (fun k => k = b) w w' := by
    rintro σ' a' w' ⟨c', F', h'⟩ ⟨hf', hm0, hm8⟩
    obtain ⟨b', C', e', fz', hat', hC', hfz', hR', hFb⟩ := h'.mem 0 _ hm0
    have hpin := h'.mem 8 _ hm8
    obtain ⟨_, _, hpin⟩ := hpin
    rw [hat'] at hpin; cases hpin
    obtain ⟨V, h1, G, h2, h3⟩ := fin_ok hE (h'.drop 0) hf'
    refine ⟨h'.defers, V, h1, V, G, C', e', fz', rfl, h2.nb hnb, fun k hk => ?_, hC', hfz', (RL.lits_eq hR').1, h'.keeps⟩
    obtain ⟨s, hs0, hs⟩ := h3 k hk
    have := h'.new s k hs
    exact ⟨this.1.resolve_right (fun e => hs0 (h'.disj _ _ _ hs ((hFb k).2 e))), this.2⟩
  exact vc_ok hE hmix x (n := fn.ntmps) (w0 := w) (L := fun k => k = b) hok (fun σ' a' w' h1 h2 => done σ' a' w' h1 h2) (fun _ _ _ _ _ h => h.elim) (fun σ' a' w' h1 h2 => done σ' a' w' h1 h2) (h b) ⟨_, _, hH⟩

/-- THE CONTRACT of a function that hands back a pointer to a new variable. -/
def NewF (P : Program) (f : FuncId) (pars : List (Value × AV)) (args : List Value) (post : List Value) : Prop :=
  Callable P f ∧ post.all (·.oneCell') = true ∧
  ∀ (w : World), (∀ p ∈ pars, R ⟨fun _ => none, fun k => k < w.heap.size⟩ w p.2 p.1) →
    Calls P f args.toArray w fun e w' => ∃ b C e' fz', e = .returned (.pointer (some ⟨b, 0, none⟩)) ∧ w.heap.size ≤ b ∧ w'.heap[b]? = some (.cells C e' fz') ∧ Unfz 1 C fz' ∧ C.toList = post ∧ Bel w.heap.size w w'

theorem new_ok {f : FuncId} {pars : List (Value × AV)} {vs post : List Value} {args : List Operand} (site : Nat) (hf : NewF P f pars vs post) (hargs : args.map σ.get = vs.map fun v => .one (.lit v)) (hp : ∀ p ∈ pars, ∃ q, σ.mem q = some (.par p.1 p.2)) (hs : σ.mem site = none) :
    CallOk P f args σ (σ.add site (.var (post.map .lit))) (.one (.ptr site 0)) := by
  refine ⟨hf.1, fun w0 L n a w ⟨c, F, h⟩ => ?_⟩
  obtain ⟨_, hone, hcall⟩ := hf
  have hv : args.map a.eval = vs := by
    have : ∀ (l : List Operand) (vs : List Value), l.map σ.get = vs.map (fun v => T.one (.lit v)) → l.map a.eval = vs := by
      intro l
      induction l with
      | nil => intro vs h; cases vs with | nil => rfl | cons => simp at h
      | cons x l ih =>
        intro vs h'
        cases vs with
        | nil => simp at h'
        | cons v vs =>
          simp only [List.map_cons, List.cons.injEq] at h' ⊢
          have g := h.get x
          rw [h'.1] at g
          exact ⟨one_lit g, ih vs h'.2⟩
    exact this args vs hargs
  have hpars : ∀ p ∈ pars, R ⟨fun _ => none, fun k => k < w.heap.size⟩ w p.2 p.1 := fun p hpm => by
    obtain ⟨q, hq⟩ := hp p hpm
    obtain ⟨a2, a3, _⟩ := h.par q _ _ hq
    exact R.free (c' := ⟨fun _ => none, fun k => k < w.heap.size⟩) (fun k (hk : oldB w0 L k) => Nat.lt_of_lt_of_le hk.1 h.keeps.size) (fun k (hk : oldB w0 L k) => h.keeps.block k hk.1 hk.2) a3 a2
  rw [hv]
  refine (hcall w hpars).mono ?_
  rintro e1 w' ⟨b, C, e', fz', rfl, hbl, hC, hfz, hpost, hbelow⟩
  have hb' : b < w'.heap.size := by
    rcases Nat.lt_or_ge b w'.heap.size with h1 | h1
    · exact h1
    · simp [Array.getElem?_eq_none h1] at hC
  have := h.addSite (s := site) (k := .var (post.map .lit)) (i := .var b) (G := fun k => k = b) hbelow hs (fun k hk => by subst hk; exact ⟨hbl, hb'⟩)
    ⟨b, C, e', fz', by simp [Ctx.add], hC, hfz, by rw [hpost]; exact RL.lits _ w' post hone, fun k => Iff.rfl⟩
  exact ⟨_, _, _, rfl, this, .ptr (by simp [Ctx.add]), rfl⟩

def memN (pars : List (Value × AV)) (s : Nat) : Option Blk := match pars[s]? with
  | some p => some (.par p.1 p.2)
  | none => none
def finN (r : Nat) (post : List Value) (σ : AS) : Prop := ∃ s, σ.tm r = .one (.ptr s 0) ∧ σ.mem s = some (.var (post.map .lit))

theorem newf_of_vc (hE : E.ok P) {f : FuncId} {fn : Func} {x : Code} {pars : List (Value × AV)} {vs post : List Value} {r : Nat} (hmix : P.follows .mixedOrders = true) (hf : P.funcs[f]? = some fn) (hb : fn.body = some x) (hname : (fn.name == "runtime.NumGoroutine") = false)
    (hok : okCode E fn.ntmps x = true) (hlen : vs.length ≤ fn.ntmps) (hres : fn.results = #[.tmp r]) (hone : post.all (·.oneCell') = true) (hv1 : vs.all (·.oneCell') = true) (hpf : (pars.all fun p => p.2.isFree) = true)
    (h : vcCode P E x (finN r post) (fun _ _ => False) (finN r post) ⟨fun t => (vs.map fun v => T.one (.lit v)).getD t .dead, memN pars⟩) : NewF P f pars vs post := by
  refine ⟨⟨fn, hf, by simp [hb], hname⟩, hone, fun w hpars => ?_⟩
  let c : Ctx := ⟨fun s => if (memN pars s).isSome then some .nil else none, fun k => k < w.heap.size⟩
  refine calls_of_wp hf hb ?_
  have hH : H w (fun _ => False) fn.ntmps ⟨fun t => (vs.map fun v => T.one (.lit v)).getD t .dead, memN pars⟩ { tmps := vs.toArray ++ Array.replicate (fn.ntmps - vs.toArray.size) undef, defers := [] } w c (fun _ _ => False) := by
    refine { keeps := ⟨rfl, rfl, rfl, Nat.le_refl _, fun _ _ _ => rfl, Nat.le_refl _⟩, size := by simp; omega, defers := rfl, tm := fun t => ?_, mem := fun s k hk => ?_, dom := fun s hs => ?_, disj := fun _ _ _ h => h.elim, new := fun _ _ h => h.elim, imm := fun _ hk => hk, inn := fun _ _ h => h.elim, par := fun s v y hk => ?_ }
    · by_cases ht : t < vs.length
      · rw [Array.getD_eq_getD_getElem?, Array.getElem?_append_left (by simpa using ht)]
        have hvt : (vs.map fun v => T.one (.lit v)).getD t .dead = .one (.lit vs[t]) := by simp [List.getD_eq_getElem?_getD, ht]
        show RT c w ((vs.map fun v => T.one (.lit v)).getD t .dead) _
        rw [hvt]
        have : (vs.toArray[t]?.getD undef) = vs[t] := by simp [ht]
        rw [this]
        exact RT_lit _ (List.all_eq_true.1 hv1 _ (List.getElem_mem ht))
      · have e : (vs.map fun v => T.one (.lit v)).getD t .dead = .dead := by rw [List.getD_eq_getElem?_getD, List.getElem?_eq_none (by simpa using ht)]; rfl
        show RT _ _ ((vs.map fun v => T.one (.lit v)).getD t .dead) _
        rw [e]; trivial
    · replace hk : memN pars s = some k := hk
      have hat0 : c.at_ s = some .nil := by simp [c, hk]
      unfold memN at hk
      split at hk <;> cases hk
      exact ⟨hat0, fun _ h => h⟩
    · replace hs : memN pars s = none := hs
      exact ⟨by simp [c, hs], fun _ h => h⟩
    · replace hk : memN pars s = some (.par v y) := hk
      unfold memN at hk
      split at hk <;> cases hk
      rename_i p hp
      have hpm := List.mem_of_getElem? hp
      exact ⟨List.all_eq_true.1 hpf p hpm, R.free (c' := ⟨fun _ => none, oldB w fun _ => False⟩) (fun k hk => ⟨hk, fun h => h⟩) (fun _ _ => rfl) (hpars p hpm) (List.all_eq_true.1 hpf p hpm), fun k hk => hk.1⟩
  have done : ∀ σ' a' w', Holds w (fun _ => False) fn.ntmps σ' a' w' → finN r post σ' → a'.defers = [] ∧ ∃ V, (results fn a'.tmps).run P w' = .ok V w' ∧ ∃ b C e' fz', Ending.returned V = .returned (.pointer (some ⟨b, 0, none⟩)) ∧ w.heap.size ≤ b ∧ w'.heap[b]? = some (.cells C e' fz') ∧ Unfz 1 C fz' ∧ C.toList = post ∧ Bel w.heap.size w w' := by
    rintro σ' a' w' ⟨c', F', h'⟩ ⟨s, h1, h2⟩
    have ht := h'.tm r
    rw [h1] at ht
    obtain ⟨ht, _⟩ := ht
    obtain ⟨b, C, e', fz', hat, hC, hfz, hR, hFb⟩ := h'.mem s _ h2
    generalize hV : a'.tmps.getD r undef = V at ht
    cases ht with | @ptr _ _ b2 hat2 =>
    rw [hat] at hat2; cases hat2
    have hnew := h'.new s b ((hFb b).2 rfl)
    refine ⟨h'.defers, _, ?_, b, C, e', fz', rfl, hnew.1.resolve_right (fun h => h), hC, hfz, (RL.lits_eq hR).1, ⟨h'.keeps.os, h'.keeps.tape, h'.keeps.output, h'.keeps.size, fun k hk => h'.keeps.block k hk (fun h => h), h'.keeps.dr⟩⟩
    unfold results
    rw [hres]
    have hV' : a'.tmps[r]?.getD undef = .pointer (some ⟨b, 0, none⟩) := by rw [← Array.getD_eq_getD_getElem?]; exact hV
    simp [hV']
  exact vc_ok hE hmix x (n := fn.ntmps) (w0 := w) (L := fun _ => False) hok (fun σ' a' w' h1 h2 => done σ' a' w' h1 h2) (fun _ _ _ _ _ h => h.elim) (fun σ' a' w' h1 h2 => done σ' a' w' h1 h2) h ⟨_, _, hH⟩
end
end Go.Proofs.Ytlijeincckbdaaa
namespace Go.Proofs.Ytlijeincckbdaaa
open Go.RowKit
set_option linter.unusedSimpArgs false
set_option linter.unusedVariables false
set_option maxHeartbeats 2000000

def swp (a b k : Nat) : Nat := if k = a then b else if k = b then a else k
theorem swp_swp (a b k : Nat) : swp a b (swp a b k) = k := by
  unfold swp
  by_cases h1 : k = a
  · subst h1
    by_cases h2 : b = k <;> simp [h2]
  · by_cases h2 : k = b
    · subst h2; simp [h1]
    · simp [h1, h2]
theorem swp_inj {a b k l : Nat} (h : swp a b k = swp a b l) : k = l := by rw [← swp_swp a b k, h, swp_swp]
def AV.ren (a b : Nat) : AV → AV
  | .ptr s j => .ptr (swp a b s) j
  | .eptr s i j => .eptr (swp a b s) i j
  | .loc s o l => .loc (swp a b s) o l
  | .fn f [] => .fn f []
  | .fn _ _ => .dead
  | x => x
def T.ren (a b : Nat) : T → T
  | .one x => .one (x.ren a b)
  | .agg xs => .agg (xs.map (AV.ren a b))
  | .tup ts => .tup (ts.map fun t => (t.1, t.2.map (AV.ren a b)))
  | .dead => .dead
def Blk.ren (a b : Nat) : Blk → Blk
  | .var xs => .var (xs.map (AV.ren a b))
  | .row true sz es => .row true sz es
  | .row false sz es => .row false sz (es.map fun e => e.map (AV.ren a b))
  | .par v x => .par v x
  | .pin s i => .pin (swp a b s) i
  | .mapb m es => .mapb m es
def AS.ren (σ : AS) (a b : Nat) : AS := ⟨fun t => (σ.tm t).ren a b, fun s => (σ.mem (swp a b s)).map (Blk.ren a b)⟩
def Ctx.ren (c : Ctx) (a b : Nat) : Ctx := ⟨fun s => c.at_ (swp a b s), c.I⟩

section
variable {w0 w : World} {L : Nat → Prop} {n : Nat} {σ : AS} {a : Act} {c : Ctx} {F : Nat → Nat → Prop} {p q : Nat}

theorem R.ren {x : AV} {v : Value} (h : R c w x v) : R (c.ren p q) w (x.ren p q) v := by
  have hat : ∀ {s : Nat} {i : SI}, c.at_ s = some i → (c.ren p q).at_ (swp p q s) = some i := fun {s i} h => by
    show c.at_ (swp p q (swp p q s)) = some i; rw [swp_swp]; exact h
  cases x with
  | dead => exact .dead v
  | lit => cases h; exact .lit _
  | ptr s j => cases h with | ptr h => exact .ptr (hat h)
  | eptr s i j => cases h with | @eptr _ _ _ b cap sz h => exact .eptr (b := b) (cap := cap) (sz := sz) (hat h)
  | loc s o len => cases h with
    | loc h a b => exact .loc (hat h) a b
    | locnil h => exact .locnil (hat h)
  | row => exact R.free (c := c) (c' := c.ren p q) (fun _ h => h) (fun _ _ => rfl) h rfl
  | bptr => exact R.free (c := c) (c' := c.ren p q) (fun _ h => h) (fun _ _ => rfl) h rfl
  | nn => exact R.free (c := c) (c' := c.ren p q) (fun _ h => h) (fun _ _ => rfl) h rfl
  | fn f caps =>
    cases caps with
    | nil => cases h with | fn a1 a0 a2 => exact .fn a1 a0 (fun k x v hx => by simp at hx)
    | cons x l => exact .dead v
theorem RL.ren : ∀ {xs : List AV} {vs : List Value}, RL c w xs vs → RL (c.ren p q) w (xs.map (AV.ren p q)) vs
  | [], [], _ => trivial
  | _ :: _, _ :: _, h => ⟨⟨h.1.1.ren, h.1.2⟩, RL.ren h.2⟩
theorem RTs.ren : ∀ {ts : List (Bool × List AV)} {vs : List Value}, RTs c w ts vs → RTs (c.ren p q) w (ts.map fun t => (t.1, t.2.map (AV.ren p q))) vs
  | [], [], _ => trivial
  | (false, [x]) :: _, _ :: _, h => ⟨⟨h.1.1.ren, h.1.2⟩, RTs.ren h.2⟩
  | (true, _) :: _, .agg _ :: _, h => ⟨RL.ren h.1, RTs.ren h.2⟩
theorem RT.ren {t : T} {v : Value} (h : RT c w t v) : RT (c.ren p q) w (t.ren p q) v := by
  cases t with
  | dead => trivial
  | one x => exact ⟨h.1.ren, h.2⟩
  | agg xs => cases v <;> first | exact h.elim | exact RL.ren h
  | tup ts => cases v <;> first | exact h.elim | exact RTs.ren h
theorem ren_cell {x : AV} (h : x.isCell = true) : x.ren p q = x := by cases x <;> first | rfl | simp [AV.isCell] at h
theorem ren_notcell {x : AV} (h : x.isCell = false) : (x.ren p q).isCell = false := by
  cases x <;> first | rfl | (simp [AV.isCell] at h; done) | skip
  rename_i f caps
  cases caps <;> rfl
theorem RO.cell {x : AV} {v : Value} {G : Nat → Prop} (h : RO c w G x v) : x.isCell = true := by
  cases h with
  | plain h1 _ _ => cases x <;> first | rfl | simp [AV.isData] at h1
  | nil => rfl
  | own => rfl
theorem BlkOk.ren {F : Nat → Prop} {s : Nat} {k : Blk} (h : BlkOk c w F s k) : BlkOk (c.ren p q) w F (swp p q s) (k.ren p q) := by
  have hat : ∀ {s : Nat} {i : SI}, c.at_ s = some i → (c.ren p q).at_ (swp p q s) = some i := fun {s i} h => by
    show c.at_ (swp p q (swp p q s)) = some i; rw [swp_swp]; exact h
  cases k with
  | var xs =>
    obtain ⟨b, C, e, fz, a1, a2, a3, a4, a5⟩ := h
    exact ⟨b, C, e, fz, hat a1, a2, a3, a4.ren, a5⟩
  | row o sz es =>
    cases o with
    | true =>
      rcases h with ⟨a1, a2, a3⟩ | ⟨b, cap, a1, C, e, fz, G, b1, b2, b3, b4, b5, b6, b7, b8, b9, b10, b11, b12⟩
      · exact .inl ⟨hat a1, a2, a3⟩
      · exact .inr ⟨b, cap, hat a1, C, e, fz, G, b1, b2, b3, b4, b5, b6, b7, fun i j x v hx hv => .inl (RO.ctx (c := c) (c' := c.ren p q) (fun _ h => h) ((b8 i j x v hx hv).resolve_right (by simp))), b9, b10, b11, b12⟩
    | false =>
      rcases h with ⟨a1, rfl, a3⟩ | ⟨b, cap, a1, C, e, fz, G, b1, b2, b3, b4, b5, b6, b7, b8, b9, b10, b11, b12⟩
      · exact .inl ⟨hat a1, rfl, a3⟩
      · refine .inr ⟨b, cap, hat a1, C, e, fz, G, b1, b2, by simpa using b3, b4, b5, fun e he => ?_, fun i j x v hx hv => ?_, fun i j x v hx hv => ?_, b9, b10, fun i j k hg => ?_, b12⟩
        · obtain ⟨e', he', rfl⟩ := List.mem_map.1 he
          rw [List.length_map]; exact b6 e' he'
        · obtain ⟨y, hy, _⟩ := elt_map hx
          exact b7 i j y v hy hv
        · obtain ⟨y, hy, rfl⟩ := elt_map hx
          rcases b8 i j y v hy hv with h1 | ⟨h1, h2, h3, h4⟩
          · left
            rw [ren_cell h1.cell]
            exact RO.ctx (c := c) (c' := c.ren p q) (fun _ h => h) h1
          · exact .inr ⟨h1, h2, h3.ren, ren_notcell h4⟩
        · have := b11 i j k hg
          unfold elt at this ⊢
          cases he : es[i]? with
          | none => simp [he] at this
          | some e => simp [he] at this; simp [he, this]
  | par v x => exact ⟨hat h.1, h.2⟩
  | pin s2 i => exact ⟨hat h.1, h.2.1, hat h.2.2⟩
  | mapb b es => exact ⟨hat h.1, h.2⟩
theorem ren_par {k : Blk} {v : Value} {x : AV} (h : k.ren p q = .par v x) : k = .par v x := by
  cases k with
  | par => exact h
  | row o => cases o <;> cases h
  | _ => cases h

/-- Two places change their numbers. -/
theorem weak_swap (p q : Nat) {τ : AS} (hw : Weak (σ.ren p q) τ) : Weak σ τ := by
  rintro w0 L n a w ⟨c, F, h⟩
  refine hw _ _ _ _ _ ⟨c.ren p q, fun s b => F (swp p q s) b, ?_⟩
  refine ⟨h.keeps, h.size, h.defers, fun t => (h.tm t).ren, fun s k hk => ?_, fun s hs => ?_, fun s s' b h1 h2 => swp_inj (h.disj _ _ _ h1 h2), fun s b hb => h.new _ b hb, h.imm, fun s b hb => ?_, fun s v x hk => ?_⟩
  · simp only [AS.ren] at hk
    cases hm : σ.mem (swp p q s) with
    | none => rw [hm] at hk; cases hk
    | some k' =>
      rw [hm] at hk
      simp only [Option.map_some, Option.some.injEq] at hk
      subst hk
      have := (h.mem _ k' hm).ren (p := p) (q := q)
      rw [swp_swp] at this
      exact this
  · simp only [AS.ren] at hs
    cases hm : σ.mem (swp p q s) with
    | none => exact h.dom _ hm
    | some k' => rw [hm] at hs; cases hs
  · exact h.inn (swp p q s) b hb
  · simp only [AS.ren] at hk
    cases hm : σ.mem (swp p q s) with
    | none => rw [hm] at hk; cases hk
    | some k' =>
      rw [hm] at hk
      simp only [Option.map_some, Option.some.injEq] at hk
      have := ren_par hk
      subst this
      exact h.par _ v x hm
end
end Go.Proofs.Ytlijeincckbdaaa
namespace Go.Proofs.Ytlijeincckbdaaa
open Go.RowKit
set_option linter.unusedSimpArgs false
set_option linter.unusedVariables false
set_option maxHeartbeats 2000000
section
variable {P : Program} {w : World} {I : Nat → Prop}
theorem law_of_vc2 {E : Tab} (hE : E.ok P) {f : FuncId} {fn : Func} {x : Code} {args : List T} {r : T} (hmix : P.follows .mixedOrders = true) (hf : P.funcs[f]? = some fn) (hb : fn.body = some x) (hname : (fn.name == "runtime.NumGoroutine") = false)
    (hok : okCode E fn.ntmps x = true) (hlen : args.length ≤ fn.ntmps) (hnb : r.nb = true) (ha : (args.all fun t => match t with | .one _ => true | .agg _ => true | _ => false) = true)
    (h : ∀ u : Nat → Value, (∀ (s : Nat) (o : Bool) (sz : Nat) (es : List (List AV)), (flatTs args)[s]? = some (.row o sz es) → ∃ A cap, u s = .slice A es.length cap) → vcCode P E x (fin E fn.results.toList r) (fun _ _ => False) (fin E fn.results.toList r) ⟨fun t => (litTs u 0 args).getD t .dead, parM u args⟩) : Fun1 P f args r := by
  refine ⟨⟨fn, hf, by simp [hb], hname⟩, hnb, fun w I vs hI hargs => ?_⟩
  let u : Nat → Value := fun i => (flatV args vs.toList).getD i default
  have hu : ∀ j v, (flatV args vs.toList)[j]? = some v → u j = v := fun j v hv => by simp [u, List.getD_eq_getElem?_getD, hv]
  let c : Ctx := ⟨fun s => if (parM u args s).isSome then some .nil else none, fun k => k < w.heap.size⟩
  have hargs' : RTL c w (litTs u 0 args) vs.toList := litTs_ok (c := c) hI ha hargs (fun j v hv => by rw [Nat.zero_add]; exact hu j v hv)
  have hll : ∀ {ts : List T} {i : Nat}, (litTs u i ts).length = ts.length := by
    intro ts
    induction ts with
    | nil => intro i; rfl
    | cons t ts ih => intro i; simp [litTs, ih]
  have hvl : vs.toList.length = args.length := by
    have : ∀ {ts : List T} {us : List Value}, RTL (c0 I) w ts us → us.length = ts.length := by
      intro ts
      induction ts with
      | nil => intro us h; cases us with | nil => rfl | cons => exact h.elim
      | cons t ts ih => intro us h; cases us with | nil => exact h.elim | cons u us => simp [ih h.2]
    exact this hargs
  have hat : ∀ {ts : List T} {us : List Value}, RTL c w ts us → ∀ t : Nat, RT c w (ts.getD t .dead) (us.getD t undef) := by
    intro ts
    induction ts with
    | nil => intro us h t; trivial
    | cons t ts ih =>
      intro us h k
      cases us with
      | nil => exact h.elim
      | cons u us =>
        cases k with
        | zero => exact h.1
        | succ k => exact ih h.2 k
  have hslice : ∀ (s : Nat) (o : Bool) (sz : Nat) (es : List (List AV)), (flatTs args)[s]? = some (.row o sz es) → ∃ A cap, u s = .slice A es.length cap := fun s o sz es hg => by
    have hfl := flat_ok ha hargs
    have hi := (List.getElem?_eq_some_iff.1 hg).1
    have hl := RL.length hfl
    have hv : (flatV args vs.toList)[s]? = some ((flatV args vs.toList)[s]'(by omega)) := by simp
    have := (hfl.at hg hv).1
    rw [hu _ _ hv]
    generalize (flatV args vs.toList)[s]'(by omega) = v at this
    generalize hx : AV.row o sz es = x at this
    cases this with
    | row b o' vals => cases hx; exact ⟨_, _, rfl⟩
    | _ => cases hx
  refine calls_of_wp hf hb ?_
  have hH : H w (fun _ => False) fn.ntmps ⟨fun t => (litTs u 0 args).getD t .dead, parM u args⟩ { tmps := vs ++ Array.replicate (fn.ntmps - vs.size) undef, defers := [] } w c (fun _ _ => False) := by
    have hvs : vs.size = args.length := by simpa using hvl
    refine { keeps := ⟨rfl, rfl, rfl, Nat.le_refl _, fun _ _ _ => rfl, Nat.le_refl _⟩, size := by simp; omega, defers := rfl, tm := fun t => ?_, mem := fun s k hk => ?_, dom := fun s hs => ?_, disj := fun _ _ _ h => h.elim, new := fun _ _ h => h.elim, imm := fun _ hk => hk, inn := fun _ _ h => h.elim, par := fun s v x hk => ?_ }
    · have := hat hargs' t
      by_cases ht : t < vs.size
      · have e : (vs ++ Array.replicate (fn.ntmps - vs.size) undef).getD t undef = vs.toList.getD t undef := by
          rw [Array.getD_eq_getD_getElem?, Array.getElem?_append_left ht]
          simp
        rw [e]; exact this
      · have e : (litTs u 0 args).getD t .dead = .dead := by rw [List.getD_eq_getElem?_getD, List.getElem?_eq_none (by rw [hll]; omega)]; rfl
        show RT _ _ ((litTs u 0 args).getD t .dead) _
        rw [e]; trivial
    · replace hk : parM u args s = some k := hk
      have hat0 : c.at_ s = some .nil := by simp [c, hk]
      unfold parM at hk
      split at hk
      · cases hk; exact ⟨hat0, fun _ h => h⟩
      · cases hk
    · replace hs : parM u args s = none := hs
      exact ⟨by simp [c, hs], fun _ h => h⟩
    · replace hk : parM u args s = some (.par v x) := hk
      unfold parM at hk
      split at hk
      · rename_i o sz es hg
        · cases hk
          refine ⟨rfl, ?_, fun k hk => hk.1⟩
          have hfl := flat_ok ha hargs
          have hi := (List.getElem?_eq_some_iff.1 hg).1
          have hl := RL.length hfl
          have hv : (flatV args vs.toList)[s]? = some ((flatV args vs.toList)[s]'(by omega)) := by simp
          have := (hfl.at hg hv).1
          rw [hu _ _ hv]
          exact R.free (c := c0 I) (fun b (hb : I b) => (show oldB w (fun _ => False) b from ⟨hI b hb, fun h => h⟩)) (fun _ _ => rfl) this rfl
      · cases hk
  have done : ∀ σ' a' w', Holds w (fun _ => False) fn.ntmps σ' a' w' → fin E fn.results.toList r σ' → a'.defers = [] ∧ ∃ V, (results fn a'.tmps).run P w' = .ok V w' ∧ ∃ v F, Ending.returned V = .returned v ∧ ROT' (c0 I) w' F r v ∧ (∀ k, F k → w.heap.size ≤ k ∧ k < w'.heap.size) ∧ Bel w.heap.size w w' := by
    rintro σ' a' w' ⟨c', F', h'⟩ hf'
    obtain ⟨V, h1, G, h2, h3⟩ := fin_ok hE h' hf'
    refine ⟨h'.defers, V, h1, V, G, rfl, h2.nb hnb, fun k hk => ?_, ⟨h'.keeps.os, h'.keeps.tape, h'.keeps.output, h'.keeps.size, fun k hk => h'.keeps.block k hk (fun h => h), h'.keeps.dr⟩⟩
    obtain ⟨s, hs⟩ := h3 k hk
    have := h'.new s k hs
    exact ⟨this.1.resolve_right (fun h => h), this.2⟩
  exact vc_ok hE hmix x (n := fn.ntmps) (w0 := w) (L := fun _ => False) hok (fun σ' a' w' h1 h2 => done σ' a' w' h1 h2) (fun _ _ _ _ _ h => h.elim) (fun σ' a' w' h1 h2 => done σ' a' w' h1 h2) (h u hslice) ⟨_, _, hH⟩

theorem law_row1 {E : Tab} (hE : E.ok P) {f : FuncId} {fn : Func} {x : Code} {es : List (List AV)} {r : T} (hmix : P.follows .mixedOrders = true) (hf : P.funcs[f]? = some fn) (hb : fn.body = some x) (hname : (fn.name == "runtime.NumGoroutine") = false)
    (hok : okCode E fn.ntmps x = true) (hlen : 1 ≤ fn.ntmps) (hnb : r.nb = true)
    (h : ∀ (A : Option Addr) (cap : Nat), vcCode P E x (fin E fn.results.toList r) (fun _ _ => False) (fin E fn.results.toList r) ⟨fun t => [T.one (.lit (.slice A es.length cap))].getD t .dead, memN [(.slice A es.length cap, .row true 1 es)]⟩) : Fun1 P f [.one (.row true 1 es)] r := by
  refine law_of_vc2 hE hmix hf hb hname hok (by simpa using hlen) hnb rfl fun u hu => ?_
  obtain ⟨A, cap, h0⟩ := hu 0 true 1 es rfl
  have e1 : litTs u 0 [T.one (.row true 1 es)] = [T.one (.lit (.slice A es.length cap))] := by simp [litTs, litT, litA, h0]
  have e2 : parM u [T.one (.row true 1 es)] = memN [(.slice A es.length cap, .row true 1 es)] := by
    funext s
    match s with
    | 0 => simp [parM, memN, flatTs, flatT, h0]
    | s + 1 => simp [parM, memN, flatTs, flatT]
  rw [e1, e2]
  exact h A cap
theorem law_row2 {E : Tab} (hE : E.ok P) {f : FuncId} {fn : Func} {x : Code} {es es2 : List (List AV)} {r : T} (hmix : P.follows .mixedOrders = true) (hf : P.funcs[f]? = some fn) (hb : fn.body = some x) (hname : (fn.name == "runtime.NumGoroutine") = false)
    (hok : okCode E fn.ntmps x = true) (hlen : 2 ≤ fn.ntmps) (hnb : r.nb = true)
    (h : ∀ (A : Option Addr) (cap : Nat) (A2 : Option Addr) (cap2 : Nat), vcCode P E x (fin E fn.results.toList r) (fun _ _ => False) (fin E fn.results.toList r) ⟨fun t => [T.one (.lit (.slice A es.length cap)), T.one (.lit (.slice A2 es2.length cap2))].getD t .dead, memN [(.slice A es.length cap, .row true 1 es), (.slice A2 es2.length cap2, .row true 1 es2)]⟩) :
    Fun1 P f [.one (.row true 1 es), .one (.row true 1 es2)] r := by
  refine law_of_vc2 hE hmix hf hb hname hok (by simpa using hlen) hnb rfl fun u hu => ?_
  obtain ⟨A, cap, h0⟩ := hu 0 true 1 es rfl
  obtain ⟨A2, cap2, h1⟩ := hu 1 true 1 es2 rfl
  have e1 : litTs u 0 [T.one (.row true 1 es), T.one (.row true 1 es2)] = [T.one (.lit (.slice A es.length cap)), T.one (.lit (.slice A2 es2.length cap2))] := by simp [litTs, litT, litA, T.wid, h0, h1]
  have e2 : parM u [T.one (.row true 1 es), T.one (.row true 1 es2)] = memN [(.slice A es.length cap, .row true 1 es), (.slice A2 es2.length cap2, .row true 1 es2)] := by
    funext s
    match s with
    | 0 => simp [parM, memN, flatTs, flatT, h0]
    | 1 => simp [parM, memN, flatTs, flatT, h1]
    | s + 2 => simp [parM, memN, flatTs, flatT]
  rw [e1, e2]
  exact h A cap A2 cap2
end
end Go.Proofs.Ytlijeincckbdaaa
namespace Go.Proofs.Ytlijeincckbdaaa
open Go.RowKit Go.Sort Go.Lib
set_option linter.unusedSimpArgs false
set_option linter.unusedVariables false
set_option maxHeartbeats 2000000

theorem bel_grow {w w' : World} (h : Bel w.heap.size w w') : ∃ q os', w' = grow (w.drewN q) os' := by
  refine ⟨w'.drawn - w.drawn, w'.heap.extract w.heap.size w'.heap.size, ?_⟩
  have hd := h.dr
  have hh : w'.heap = w.heap ++ w'.heap.extract w.heap.size w'.heap.size := by
    apply Array.ext_getElem?
    intro k
    by_cases hk : k < w.heap.size
    · rw [Array.getElem?_append_left hk]; exact h.block k hk
    · rw [Array.getElem?_append_right (by omega), Array.getElem?_extract]
      have hs := h.size
      by_cases h2 : k < w'.heap.size
      · rw [if_pos (by omega)]; congr 1; omega
      · rw [if_neg (by omega), Array.getElem?_eq_none (by omega)]
  have e1 := h.os
  have e2 := h.tape
  have e3 := h.output
  cases w with | mk h1 t1 d1 o1 p1 =>
  cases w' with | mk h2 t2 d2 o2 p2 =>
  simp only at hd hh e1 e2 e3
  subst e1 e2 e3
  unfold grow World.drewN
  simp only
  rw [← hh, Nat.add_sub_cancel' hd]
theorem bel_of_grow (w : World) (q : Nat) (os' : Array Obj) : Bel w.heap.size w (grow (w.drewN q) os') :=
  ⟨rfl, rfl, rfl, by simp [grow, World.drewN], fun k hk => by simp [grow, World.drewN, Array.getElem?_append_left hk], Nat.le_add_right _ _⟩

theorem elt_enc {α : Type} {enc : α → List Value} {l : List α} {i j : Nat} {x : AV} (h : elt (l.map fun a => (enc a).map AV.lit) i j = some x) : ∃ hi : i < l.length, ∃ v, (enc l[i])[j]? = some v ∧ x = .lit v := by
  unfold elt at h
  rw [List.getElem?_map] at h
  cases hq : l[i]? with
  | none => simp [hq] at h
  | some a =>
    obtain ⟨hi, rfl⟩ := List.getElem?_eq_some_iff.1 hq
    simp only [hq, Option.map_some, Option.bind_some, List.getElem?_map] at h
    cases hv : (enc l[i])[j]? with
    | none => simp [hv] at h
    | some v => simp [hv] at h; exact ⟨hi, v, by assumption, h.symm⟩
theorem enc_elt {α : Type} {enc : α → List Value} {l : List α} {i j : Nat} (hi : i < l.length) {v : Value} (hv : (enc l[i])[j]? = some v) : elt (l.map fun a => (enc a).map AV.lit) i j = some (.lit v) := by
  unfold elt
  simp [hi, hv]

section
variable {P : Program} {α : Type} [Inhabited α]

/-- What the sort asks of its comparison, out of the comparison's contract. -/
theorem cmpLays_of {g : FuncId} {enc : α → List Value} {sz : Nat} {cf : α → α → Int} (h1 : ∀ x, (enc x).all (·.oneCell') = true) (hg : ∀ x y, Fun1 P g [.agg ((enc x).map .lit), .agg ((enc y).map .lit)] (.one (.lit (.int .i64 (cf x y))))) (blk off size : Nat) (w : World) :
    CmpLays P g #[] enc sz cf blk off size w := by
  intro m os dk _ x y
  refine ((hg x y).2.2 (sortWorldK enc sz w blk off m dk os) (fun _ => False) #[.agg (enc x).toArray, .agg (enc y).toArray] (fun _ h => h.elim) ⟨RL_lits _ (h1 x), RL_lits _ (h1 y), trivial⟩).mono ?_
  rintro e w' ⟨v, F, rfl, hv, _, hb⟩
  refine ⟨?_, bel_grow hb⟩
  obtain ⟨hv, _⟩ := hv
  cases hv with
  | plain _ h _ => cases h; rfl

/-- THE CONTRACT of a sort in place. -/
def SortK (P : Program) (f g : FuncId) (sz : Nat) (enc : α → List Value) (lt : α → α → Bool) : Prop :=
  Callable P f ∧ Fun1 P f [.one (.row true sz []), .one (.fn g [])] (.tup []) ∧ ∀ (blk cap : Nat) (d : Array α) (w : World), HoldsK enc sz w blk 0 d → blk < w.heap.size → d.size < 4611686018427387904 →
    Calls P f #[.slice (some ⟨blk, 0, none⟩) d.size cap, .func (.func g) #[] #[]] w fun e w' => e = .returned (.tuple #[]) ∧ ∃ d' n os, PermIn 0 d.size d d' ∧ SortedIn lt 0 d.size d' ∧ w' = sortWorldK enc sz w blk 0 n d' os

variable {w0 w : World} {L : Nat → Prop} {n : Nat} {σ : AS} {a : Act} {c : Ctx} {F : Nat → Nat → Prop}

theorem permIn_list {d d' : Array α} (h : PermIn 0 d.size d d') : d'.toList.Perm d.toList := by
  obtain ⟨h1, _, h3⟩ := h
  have e1 : d.extract 0 d.size = d := by simp
  have e2 : d'.extract 0 d.size = d' := by rw [← h1]; simp
  rw [e1, e2] at h3
  exact h3

theorem sort_ok {f g : FuncId} {sz s : Nat} {enc : α → List Value} {lt : α → α → Bool} {l srt : List α} {x : Operand} (hf : SortK P f g sz enc lt) (hk : ∀ x, (enc x).length = sz) (h0 : 0 < sz) (h1 : ∀ x, (enc x).all (·.oneCell') = true)
    (hx : σ.get x = .one (.loc s 0 l.length)) (hs : σ.mem s = some (.row true sz (l.map fun a => (enc a).map AV.lit))) (hlen : l.length < 4611686018427387904)
    (hu : ∀ d' : List α, d'.Perm l → (∀ i j (hi : i < j) (hj : j < d'.length), lt d'[j] (d'[i]'(by omega)) = false) → d' = srt) :
    CallOk P f [x, .func g] σ (σ.set s (.row true sz (srt.map fun a => (enc a).map AV.lit))) (.tup []) := by
  refine ⟨hf.1, fun w0 L n a w ⟨c, F, h⟩ => ?_⟩
  have gx := h.get x
  rw [hx] at gx
  have hB := h.mem s _ hs
  have empty : l = [] → (∃ A cap, a.eval x = .slice A 0 cap ∧ cap ≤ maxLen) → Calls P f (List.map a.eval [x, .func g]).toArray w fun e w' => ∃ V c' F', e = .returned V ∧ H w0 L n (σ.set s (.row true sz (srt.map fun a => (enc a).map AV.lit))) a w' c' F' ∧ RT c' w' (.tup []) V := by
    rintro rfl ⟨A, cap, hA, hcap⟩
    have hsrt : srt = [] := (hu [] (List.Perm.refl _) (fun i j _ hj => by simp at hj)).symm
    subst hsrt
    have hfn : a.eval (.func g) = .func (.func g) #[] #[] := rfl
    refine (hf.2.1.2.2 w (fun _ => False) (List.map a.eval [x, .func g]).toArray (fun _ h => h.elim) ?_).mono ?_
    · show RTL _ _ _ [a.eval x, a.eval (.func g)]
      rw [hA, hfn]
      refine ⟨⟨?_, rfl⟩, ⟨?_, rfl⟩, trivial⟩
      · exact .row (es := []) 0 0 (fun _ _ => default) (Nat.zero_le _) hcap (by simp) (by simp) (by simp [elt]) (by simp [elt]) (by simp [elt]) (by simp [elt])
      · exact .fn rfl (by simp) (by simp)
    · rintro e w' ⟨v, F1, rfl, hv, _, hb⟩
      refine ⟨v, c, F, rfl, ?_, ?_⟩
      · have : σ.set s (.row true sz (List.map (fun a => (enc a).map AV.lit) [])) = σ := by
          have : (fun s' => if s' = s then some (Blk.row true sz (List.map (fun a => (enc a).map AV.lit) [])) else σ.mem s') = σ.mem := by
            funext s'
            split
            · rename_i e; subst e; exact hs.symm
            · rfl
          simp only [AS.set, this]
        rw [this]
        exact h.world hb
      · cases v <;> first | exact hv.elim | skip
        rename_i us
        obtain ⟨us⟩ := us
        cases us with
        | nil => exact trivial
        | cons u us => exact hv.elim
  rcases hB with ⟨hat, hl0, _⟩ | ⟨b, cap, hat, hRB⟩
  · have hl : l = [] := by simpa using hl0
    refine empty hl ?_
    subst hl
    obtain ⟨gx, _⟩ := gx
    generalize a.eval x = X at gx ⊢
    cases gx with
    | loc h1 => rw [hat] at h1; cases h1
    | locnil => exact ⟨none, 0, rfl, by simp [maxLen]⟩
  · obtain ⟨C, el, fz, G, a1, a2, a3, a4, a5, a6, a7, a8, a9, a10, a11, a12⟩ := id hRB
    have hX : ∃ A, a.eval x = .slice A l.length cap ∧ (0 < cap → A = some ⟨b, 0, none⟩) := by
      obtain ⟨gx, _⟩ := gx
      generalize hq : l.length = q at gx
      generalize a.eval x = X at gx ⊢
      cases gx with
      | locnil h1 => rw [hat] at h1; cases h1
      | @loc _ _ _ b' cap' sz' A h1 hle hA =>
        rw [hat] at h1; cases h1
        exact ⟨A, rfl, fun hc0 => by simpa using hA hc0⟩
    obtain ⟨A, hX, hA⟩ := hX
    rcases Nat.eq_zero_or_pos l.length with hl | hl
    · have hl : l = [] := List.eq_nil_of_length_eq_zero hl
      refine empty hl ⟨A, cap, ?_, a4⟩
      rw [hX, hl]; rfl
    simp only [List.length_map] at a3
    have hA := hA (by omega)
    subst hA
    have hcell : ∀ i (hi : i < l.length) j v, (enc l[i])[j]? = some v → C[i * sz + j]? = some v := fun i hi j v hv => by
      have he := enc_elt (enc := enc) hi hv
      obtain ⟨_, hj⟩ := elt_lt a6 he
      have hlt := fit_lt (cap := cap) (n := l.length) hi hj a3
      have hC : C[i * sz + j]? = some (C[i * sz + j]'(by omega)) := by simp
      have h2 := (a8 i j _ _ he hC).resolve_right (by simp)
      rw [hC]
      cases h2 with
      | plain _ h3 _ => cases h3; rfl
    have hbw : b < w.heap.size := (Array.getElem?_eq_some_iff.1 a1).1
    have hH : HoldsK enc sz w b 0 l.toArray := by
      intro t ht
      have ht' : t < l.length * sz := by simpa using ht
      have hi : t / sz < l.length := (Nat.div_lt_iff_lt_mul h0).2 ht'
      have hj : t % sz < sz := Nat.mod_lt _ h0
      have e : t / sz * sz + t % sz = t := by rw [Nat.mul_comm]; exact Nat.div_add_mod t sz
      have hfl : (flatK enc sz l.toArray)[t]! = ((enc l[t / sz])[t % sz]'(by rw [hk]; exact hj)) := by
        rw [get_flatK _ _ _ _ (by simpa using ht')]
        rw [getElem!_pos l.toArray (t / sz) (by simpa using hi)]
        simp only [List.getElem_toArray]
        rw [getElem!_pos _ _ (by rw [hk]; exact hj)]
      have hc := hcell (t / sz) hi (t % sz) _ (List.getElem?_eq_getElem (by rw [hk]; exact hj))
      rw [e] at hc
      have hcs : t < C.size := (Array.getElem?_eq_some_iff.1 hc).1
      have hz := a2 t (by omega)
      refine ⟨?_, ?_⟩
      · rw [hfl]
        simp only [World.cell?, a1, Option.isSome_none, Bool.false_eq_true, if_false, Nat.zero_add, hc, id]
      · simp only [World.frozen?, a1, Nat.zero_add]
        simpa using hz
    have hcall := hf.2.2 b cap l.toArray w hH hbw (by simpa using hlen)
    have eargs : (List.map a.eval [x, .func g]).toArray = #[.slice (some ⟨b, 0, none⟩) l.toArray.size cap, .func (.func g) #[] #[]] := by
      show #[a.eval x, a.eval (.func g)] = _
      rw [hX]; simp; rfl
    rw [eargs]
    refine hcall.mono ?_
    rintro e w' ⟨rfl, d', m, os, hp, hsd, rfl⟩
    have hpl := permIn_list hp
    have hd' : d'.toList = srt := hu d'.toList (by simpa using hpl) (fun i j hi hj => by
      have hj' : j < d'.size := by simpa using hj
      have hsz := hp.1
      have := hsd i j (Nat.zero_le _) hi (by rw [← hsz]; exact hj')
      rw [getElem!_pos d' j hj', getElem!_pos d' i (by omega)] at this
      simpa using this)
    have hsl : srt.length = l.length := by rw [← hd']; simpa using hpl.length_eq
    have hds : d'.size = l.length := by rw [← hsl, ← hd']; simp
    have hw1 : (putRowK enc sz w b 0 d').heap[b]? = some (.cells (putCells id 0 (flatK enc sz d') C) el fz) := by
      simp only [putRowK, putRow, mapBlock, Array.getElem?_modify, if_true, a1, Option.map_some, onCells]
    have hcs : (putCells id 0 (flatK enc sz d') C).size = C.size := by simp [putCells]
    have hget : ∀ i (hi : i < srt.length) j v, (enc srt[i])[j]? = some v → (putCells id 0 (flatK enc sz d') C)[i * sz + j]? = some v := fun i hi j v hv => by
      have hj : j < sz := by rw [← hk srt[i]]; exact (List.getElem?_eq_some_iff.1 hv).1
      have hlt := fit_lt (cap := cap) (n := l.length) (by omega : i < l.length) hj a3
      have hlt2 := fit_lt (cap := l.length) (n := l.length) (by omega : i < l.length) hj (Nat.le_refl _)
      have hC : C[i * sz + j]? = some (C[i * sz + j]'(by omega)) := by simp
      simp only [putCells, Array.getElem?_mapIdx, hC, Option.map_some]
      rw [if_pos ⟨Nat.zero_le _, by rw [size_flatK, hds]; omega⟩]
      simp only [id, Nat.sub_zero]
      rw [get_flatK _ _ _ _ (by rw [hds]; exact hlt2)]
      have e1 : (i * sz + j) / sz = i := (blk_iff sz i _ h0).1 ⟨by omega, by omega⟩
      have e2 : (i * sz + j) % sz = j := by rw [Nat.mod_eq_sub_div_mul, e1]; omega
      rw [e1, e2, getElem!_pos d' i (by omega)]
      have e3 : d'[i]'(by omega) = srt[i] := by simp only [← hd', Array.getElem_toList]
      rw [e3]
      obtain ⟨hjl, hv2⟩ := List.getElem?_eq_some_iff.1 hv
      rw [getElem!_pos (enc srt[i]) j hjl, hv2]
    have hone : ∀ (y : α) (j : Nat) (v : Value), (enc y)[j]? = some v → v.oneCell' = true := fun y j v hv => List.all_eq_true.1 (h1 y) v (List.mem_of_getElem? hv)
    have hrow : RowB c (putRowK enc sz w b 0 d') true b cap sz (srt.map fun a => (enc a).map AV.lit) (fun q => q = b) := by
      refine ⟨_, el, fz, fun _ _ _ => False, hw1, fun i hi => a2 i (by rw [hcs] at hi; exact hi), by simpa [hsl] using a3, a4, by rw [hcs]; exact a5, fun e he => ?_, fun i j y v hy hv => ?_, fun i j y v hy hv => ?_, fun _ _ h => h, fun _ _ _ _ _ h => h.elim, fun _ _ _ h => h.elim, fun q => ⟨.inl, fun h => h.elim id fun ⟨_, _, h⟩ => h.elim⟩⟩
      · obtain ⟨y, _, rfl⟩ := List.mem_map.1 he
        simp [hk]
      · obtain ⟨hi, u, hu1, rfl⟩ := elt_enc hy
        have := hget i hi j u hu1
        rw [hv] at this; cases this
        exact hone _ _ _ hu1
      · obtain ⟨hi, u, hu1, rfl⟩ := elt_enc hy
        have := hget i hi j u hu1
        rw [hv] at this; cases this
        exact .inl (.plain rfl (.lit _) (fun _ h => h))
    have hother : ∀ q, q ≠ b → (putRowK enc sz w b 0 d').heap[q]? = w.heap[q]? := fun q hq => by
      simp only [putRowK, putRow, mapBlock, Array.getElem?_modify, if_neg (Ne.symm hq)]
    have h2 := h.setBlk (w' := putRowK enc sz w b 0 d') (k' := .row true sz (srt.map fun a => (enc a).map AV.lit)) hs (G := fun q => q = b) (fun q hq => by subst hq; exact (a12 q).2 (.inl rfl)) (fun q hq => hother q fun e => hq (by subst e; exact .inr ⟨_, _, hat⟩)) (by simp [putRowK, putRow, mapBlock]) rfl rfl rfl (.inr ⟨b, cap, hat, hrow⟩)
    have hbel : Bel (putRowK enc sz w b 0 d').heap.size (putRowK enc sz w b 0 d') (sortWorldK enc sz w b 0 m d' os) := bel_of_grow (putRowK enc sz w b 0 d') m os
    exact ⟨_, c, _, rfl, h2.world hbel, trivial⟩
end

section
variable {P : Program} {w0 w : World} {L : Nat → Prop} {n : Nat} {σ : AS} {a : Act} {c : Ctx} {F : Nat → Nat → Prop} {E : Tab}
/-- What is to hold where it returns: one of many results and states. -/
def finR (n r : Nat) (R : Value → AS → Prop) (σ : AS) : Prop := ∃ v τ, R v τ ∧ σ.tm r = .one (.lit v) ∧ Weak (σ.leave n) τ
/-- A CALL, WALKED IN THE CALLER'S STATE, with many outcomes. -/
theorem inlr_ok (hE : E.ok P) {f : FuncId} {fn : Func} {x : Code} {args : List Operand} {r : Nat} {R : Value → AS → Prop} (hmix : P.follows .mixedOrders = true) (hf : P.funcs[f]? = some fn) (hb : fn.body = some x) (hname : (fn.name == "runtime.NumGoroutine") = false)
    (hok : okCode E fn.ntmps x = true) (hlen : args.length ≤ fn.ntmps) (hres : fn.results = #[.tmp r]) (hr : r < fn.ntmps) (hv : ∀ v τ, R v τ → v.oneCell' = true)
    (h : vcCode P E x (finR fn.ntmps r R) (fun _ _ => False) (finR fn.ntmps r R) (σ.enter fn.ntmps (args.map σ.get))) : CallR P f args σ (fun τ t => ∃ v, R v τ ∧ t = .one (.lit v)) := by
  refine ⟨⟨fn, hf, by simp [hb], hname⟩, fun w0 L n a w ⟨c, F, hH⟩ => ?_⟩
  refine calls_of_wp hf hb ?_
  have hsz : ((args.map a.eval).toArray ++ Array.replicate (fn.ntmps - (args.map a.eval).toArray.size) undef).size = fn.ntmps := by simp; omega
  have hH0 : HoldsG a.tmps w0 L fn.ntmps (σ.enter fn.ntmps (args.map σ.get)) { tmps := (args.map a.eval).toArray ++ Array.replicate (fn.ntmps - (args.map a.eval).toArray.size) undef, defers := [] } w := by
    refine ⟨hsz, c, F, ?_⟩
    refine { keeps := hH.keeps, size := by simp only [ext, Array.size_append, hsz], defers := rfl, tm := fun t => ?_, mem := hH.mem, dom := hH.dom, disj := hH.disj, new := hH.new, imm := hH.imm, inn := hH.inn, par := hH.par }
    show RT c w (if t < fn.ntmps then (args.map σ.get).getD t .dead else σ.tm (t - fn.ntmps)) ((_ ++ a.tmps).getD t undef)
    split
    · rename_i ht
      rw [Array.getD_eq_getD_getElem?, Array.getElem?_append_left (by rw [hsz]; exact ht)]
      by_cases h2 : t < args.length
      · rw [Array.getElem?_append_left (by simpa using h2)]
        simp only [List.getD_eq_getElem?_getD, List.getElem?_map, List.getElem?_toArray]
        rw [List.getElem?_eq_getElem h2]
        exact hH.get _
      · rw [List.getD_eq_getElem?_getD, List.getElem?_eq_none (by simpa using h2)]
        trivial
    · rename_i ht
      have := hH.tm (t - fn.ntmps)
      rw [Array.getD_eq_getD_getElem?, Array.getElem?_append_right (by rw [hsz]; omega), hsz]
      rw [Array.getD_eq_getD_getElem?] at this
      exact this
  have done : ∀ σ' a' w', HoldsG a.tmps w0 L fn.ntmps σ' a' w' → finR fn.ntmps r R σ' → a'.defers = [] ∧ ∃ V, (results fn a'.tmps).run P w' = .ok V w' ∧ ∃ τ t V0 c' F', (∃ v, R v τ ∧ t = .one (.lit v)) ∧ Ending.returned V = .returned V0 ∧ H w0 L n τ a w' c' F' ∧ RT c' w' t V0 := by
    rintro σ' a' w' ⟨hs', c', F', h'⟩ ⟨v, τ, hR, h1, h2⟩
    have hr' := h'.tm r
    rw [h1] at hr'
    have hV := one_lit hr'
    have hr2 : (ext a.tmps a').tmps.getD r undef = a'.tmps.getD r undef := by
      rw [Array.getD_eq_getD_getElem?, Array.getD_eq_getD_getElem?, ext_get a.tmps (by omega)]
    rw [hr2] at hV
    have hleave : H w0 L n (σ'.leave fn.ntmps) a w' c' F' := by
      refine { keeps := h'.keeps, size := hH.size, defers := hH.defers, tm := fun t => ?_, mem := h'.mem, dom := h'.dom, disj := h'.disj, new := h'.new, imm := h'.imm, inn := h'.inn, par := h'.par }
      have := h'.tm (t + fn.ntmps)
      simp only [ext] at this
      rw [Array.getD_eq_getD_getElem?, Array.getElem?_append_right (by omega), hs', show t + fn.ntmps - fn.ntmps = t by omega] at this
      rw [Array.getD_eq_getD_getElem?]
      exact this
    obtain ⟨c2, F2, h3⟩ := h2 _ _ _ _ _ ⟨c', F', hleave⟩
    refine ⟨h'.defers, v, ?_, τ, .one (.lit v), v, c2, F2, ⟨v, hR, rfl⟩, rfl, h3, RT_lit _ (hv v τ hR)⟩
    unfold results
    rw [hres]
    have hV' : a'.tmps[r]?.getD undef = v := by rw [← Array.getD_eq_getD_getElem?]; exact hV
    simp [hV']
  exact vc_sim (sim_ghost hE a.tmps) hmix x (n := fn.ntmps) hok (fun σ' a' w' h1 h2 => done σ' a' w' h1 h2) (fun _ _ _ _ _ h => h.elim) (fun σ' a' w' h1 h2 => done σ' a' w' h1 h2) h hH0
end
end Go.Proofs.Ytlijeincckbdaaa
namespace Go.Proofs.Ytlijeincckbdaaa
open Go.RowKit
set_option linter.unusedSimpArgs false
set_option linter.unusedVariables false
set_option maxHeartbeats 2000000
theorem close_lit {m : Nat → Option Blk} {v : Value} : closeAV m (.lit v) (.lit v) := by
  by_cases hv : v = .slice none 0 0
  · subst hv; exact .inl rfl
  · unfold closeAV
    split <;> first | (simp_all; done) | rfl
section
variable {P : Program} {w : World} {I : Nat → Prop}
/-- What is handed back may speak of the arguments' own values. -/
theorem raw_of_vc {E : Tab} (hE : E.ok P) {f : FuncId} {fn : Func} {x : Code} {args : List T} {r : (Nat → Value) → T} (hmix : P.follows .mixedOrders = true) (hf : P.funcs[f]? = some fn) (hb : fn.body = some x) (hname : (fn.name == "runtime.NumGoroutine") = false)
    (hok : okCode E fn.ntmps x = true) (hlen : args.length ≤ fn.ntmps) (hnb : ∀ u, (r u).nb = true) (ha : (args.all fun t => match t with | .one _ => true | .agg _ => true | _ => false) = true)
    (h : ∀ u : Nat → Value, (∀ (s : Nat) (o : Bool) (sz : Nat) (es : List (List AV)), (flatTs args)[s]? = some (.row o sz es) → ∃ A cap, u s = .slice A es.length cap) → vcCode P E x (fin E fn.results.toList (r u)) (fun _ _ => False) (fin E fn.results.toList (r u)) ⟨fun t => (litTs u 0 args).getD t .dead, parM u args⟩) :
    ∀ (w : World) (I : Nat → Prop) (vs : Array Value), (∀ b, I b → b < w.heap.size) → RTL (c0 I) w args vs.toList → Calls P f vs w fun e w' => ∃ v F, e = .returned v ∧ ROT' (c0 I) w' F (r fun i => (flatV args vs.toList).getD i default) v ∧ (∀ k, F k → w.heap.size ≤ k ∧ k < w'.heap.size) ∧ Bel w.heap.size w w' := by
  intro w I vs hI hargs
  let u : Nat → Value := fun i => (flatV args vs.toList).getD i default
  have hu : ∀ j v, (flatV args vs.toList)[j]? = some v → u j = v := fun j v hv => by simp [u, List.getD_eq_getElem?_getD, hv]
  let c : Ctx := ⟨fun s => if (parM u args s).isSome then some .nil else none, fun k => k < w.heap.size⟩
  have hargs' : RTL c w (litTs u 0 args) vs.toList := litTs_ok (c := c) hI ha hargs (fun j v hv => by rw [Nat.zero_add]; exact hu j v hv)
  have hll : ∀ {ts : List T} {i : Nat}, (litTs u i ts).length = ts.length := by
    intro ts
    induction ts with
    | nil => intro i; rfl
    | cons t ts ih => intro i; simp [litTs, ih]
  have hvl : vs.toList.length = args.length := by
    have : ∀ {ts : List T} {us : List Value}, RTL (c0 I) w ts us → us.length = ts.length := by
      intro ts
      induction ts with
      | nil => intro us h; cases us with | nil => rfl | cons => exact h.elim
      | cons t ts ih => intro us h; cases us with | nil => exact h.elim | cons u us => simp [ih h.2]
    exact this hargs
  have hat : ∀ {ts : List T} {us : List Value}, RTL c w ts us → ∀ t : Nat, RT c w (ts.getD t .dead) (us.getD t undef) := by
    intro ts
    induction ts with
    | nil => intro us h t; trivial
    | cons t ts ih =>
      intro us h k
      cases us with
      | nil => exact h.elim
      | cons u us =>
        cases k with
        | zero => exact h.1
        | succ k => exact ih h.2 k
  have hslice : ∀ (s : Nat) (o : Bool) (sz : Nat) (es : List (List AV)), (flatTs args)[s]? = some (.row o sz es) → ∃ A cap, u s = .slice A es.length cap := fun s o sz es hg => by
    have hfl := flat_ok ha hargs
    have hi := (List.getElem?_eq_some_iff.1 hg).1
    have hl := RL.length hfl
    have hv : (flatV args vs.toList)[s]? = some ((flatV args vs.toList)[s]'(by omega)) := by simp
    have := (hfl.at hg hv).1
    rw [hu _ _ hv]
    generalize (flatV args vs.toList)[s]'(by omega) = v at this
    generalize hx : AV.row o sz es = x at this
    cases this with
    | row b o' vals => cases hx; exact ⟨_, _, rfl⟩
    | _ => cases hx
  refine calls_of_wp hf hb ?_
  have hH : H w (fun _ => False) fn.ntmps ⟨fun t => (litTs u 0 args).getD t .dead, parM u args⟩ { tmps := vs ++ Array.replicate (fn.ntmps - vs.size) undef, defers := [] } w c (fun _ _ => False) := by
    have hvs : vs.size = args.length := by simpa using hvl
    refine { keeps := ⟨rfl, rfl, rfl, Nat.le_refl _, fun _ _ _ => rfl, Nat.le_refl _⟩, size := by simp; omega, defers := rfl, tm := fun t => ?_, mem := fun s k hk => ?_, dom := fun s hs => ?_, disj := fun _ _ _ h => h.elim, new := fun _ _ h => h.elim, imm := fun _ hk => hk, inn := fun _ _ h => h.elim, par := fun s v x hk => ?_ }
    · have := hat hargs' t
      by_cases ht : t < vs.size
      · have e : (vs ++ Array.replicate (fn.ntmps - vs.size) undef).getD t undef = vs.toList.getD t undef := by
          rw [Array.getD_eq_getD_getElem?, Array.getElem?_append_left ht]
          simp
        rw [e]; exact this
      · have e : (litTs u 0 args).getD t .dead = .dead := by rw [List.getD_eq_getElem?_getD, List.getElem?_eq_none (by rw [hll]; omega)]; rfl
        show RT _ _ ((litTs u 0 args).getD t .dead) _
        rw [e]; trivial
    · replace hk : parM u args s = some k := hk
      have hat0 : c.at_ s = some .nil := by simp [c, hk]
      unfold parM at hk
      split at hk
      · cases hk; exact ⟨hat0, fun _ h => h⟩
      · cases hk
    · replace hs : parM u args s = none := hs
      exact ⟨by simp [c, hs], fun _ h => h⟩
    · replace hk : parM u args s = some (.par v x) := hk
      unfold parM at hk
      split at hk
      · rename_i o sz es hg
        · cases hk
          refine ⟨rfl, ?_, fun k hk => hk.1⟩
          have hfl := flat_ok ha hargs
          have hi := (List.getElem?_eq_some_iff.1 hg).1
          have hl := RL.length hfl
          have hv : (flatV args vs.toList)[s]? = some ((flatV args vs.toList)[s]'(by omega)) := by simp
          have := (hfl.at hg hv).1
          rw [hu _ _ hv]
          exact R.free (c := c0 I) (fun b (hb : I b) => (show oldB w (fun _ => False) b from ⟨hI b hb, fun h => h⟩)) (fun _ _ => rfl) this rfl
      · cases hk
  have done : ∀ σ' a' w', Holds w (fun _ => False) fn.ntmps σ' a' w' → fin E fn.results.toList (r u) σ' → a'.defers = [] ∧ ∃ V, (results fn a'.tmps).run P w' = .ok V w' ∧ ∃ v F, Ending.returned V = .returned v ∧ ROT' (c0 I) w' F (r u) v ∧ (∀ k, F k → w.heap.size ≤ k ∧ k < w'.heap.size) ∧ Bel w.heap.size w w' := by
    rintro σ' a' w' ⟨c', F', h'⟩ hf'
    obtain ⟨V, h1, G, h2, h3⟩ := fin_ok hE h' hf'
    refine ⟨h'.defers, V, h1, V, G, rfl, h2.nb (hnb u), fun k hk => ?_, ⟨h'.keeps.os, h'.keeps.tape, h'.keeps.output, h'.keeps.size, fun k hk => h'.keeps.block k hk (fun h => h), h'.keeps.dr⟩⟩
    obtain ⟨s, hs⟩ := h3 k hk
    have := h'.new s k hs
    exact ⟨this.1.resolve_right (fun h => h), this.2⟩
  exact vc_ok hE hmix x (n := fn.ntmps) (w0 := w) (L := fun _ => False) hok (fun σ' a' w' h1 h2 => done σ' a' w' h1 h2) (fun _ _ _ _ _ h => h.elim) (fun σ' a' w' h1 h2 => done σ' a' w' h1 h2) (h u hslice) ⟨_, _, hH⟩

/-- THE CONTRACT: it hands back its argument j. -/
def FunId (P : Program) (f : FuncId) (args : List T) (j : Nat) : Prop :=
  Callable P f ∧ ∀ (w : World) (I : Nat → Prop) (vs : Array Value), (∀ b, I b → b < w.heap.size) → RTL (c0 I) w args vs.toList → Calls P f vs w fun e w' => e = .returned (vs.toList.getD j default) ∧ Bel w.heap.size w w'
theorem flatV_one : ∀ {ts : List T} {us : List Value}, (ts.all fun t => match t with | .one _ => true | _ => false) = true → us.length = ts.length → flatV ts us = us
  | [], [], _, _ => rfl
  | [], _ :: _, _, h => by simp at h
  | _ :: _, [], _, h => by simp at h
  | t :: ts, u :: us, h, hl => by
    simp only [List.all_cons, Bool.and_eq_true] at h
    cases t <;> first | (have := h.1; cases this; done) | skip
    simp only [flatV, flatV_one h.2 (by simpa using hl)]
theorem id_of_vc {E : Tab} (hE : E.ok P) {f : FuncId} {fn : Func} {x : Code} {args : List T} (j : Nat) (hmix : P.follows .mixedOrders = true) (hf : P.funcs[f]? = some fn) (hb : fn.body = some x) (hname : (fn.name == "runtime.NumGoroutine") = false)
    (hok : okCode E fn.ntmps x = true) (hlen : args.length ≤ fn.ntmps) (ha : (args.all fun t => match t with | .one _ => true | _ => false) = true)
    (h : ∀ u : Nat → Value, (∀ (s : Nat) (o : Bool) (sz : Nat) (es : List (List AV)), (flatTs args)[s]? = some (.row o sz es) → ∃ A cap, u s = .slice A es.length cap) → vcCode P E x (fin E fn.results.toList (.one (.lit (u j)))) (fun _ _ => False) (fin E fn.results.toList (.one (.lit (u j)))) ⟨fun t => (litTs u 0 args).getD t .dead, parM u args⟩) : FunId P f args j := by
  refine ⟨⟨fn, hf, by simp [hb], hname⟩, fun w I vs hI hargs => ?_⟩
  have hl : vs.toList.length = args.length := by
    have : ∀ {ts : List T} {us : List Value}, RTL (c0 I) w ts us → us.length = ts.length := by
      intro ts
      induction ts with
      | nil => intro us h; cases us with | nil => rfl | cons => exact h.elim
      | cons t ts ih => intro us h; cases us with | nil => exact h.elim | cons u us => simp [ih h.2]
    exact this hargs
  have ha' : (args.all fun t => match t with | .one _ => true | .agg _ => true | _ => false) = true := by
    rw [List.all_eq_true] at ha ⊢
    intro t ht
    have := ha t ht
    cases t <;> first | rfl | (cases this; done)
  refine (raw_of_vc hE (r := fun u => .one (.lit (u j))) hmix hf hb hname hok hlen (fun _ => rfl) ha' h w I vs hI hargs).mono ?_
  rintro e w' ⟨v, F, rfl, hv, _, hb⟩
  rw [flatV_one ha hl] at hv
  obtain ⟨hv, _⟩ := hv
  cases hv with
  | plain _ h _ => cases h; exact ⟨rfl, hb⟩
end
section
variable {P : Program} {w0 w : World} {L : Nat → Prop} {n : Nat} {σ : AS} {a : Act} {c : Ctx} {F : Nat → Nat → Prop}
theorem RTL.evals (h : H w0 L n σ a w c F) : ∀ l : List Operand, RTL c w (l.map σ.get) (l.map a.eval)
  | [] => trivial
  | x :: l => ⟨h.get x, RTL.evals h l⟩
theorem lent_lt (h : H w0 L n σ a w c F) (b : Nat) (hb : lentI0 c F (oldB w0 L) b) : b < w.heap.size := by
  rcases hb with hb | ⟨s, hb⟩ | hb
  · exact h.imm b hb
  · exact (h.new s b hb).2
  · exact Nat.lt_of_lt_of_le hb.1 h.keeps.size
/-- A call that hands back its argument, in the caller's state. -/
theorem id_ok {f : FuncId} {us : List T} {j : Nat} {args : List Operand} {x : Operand} (hf : FunId P f us j) (hx : args[j]? = some x) (hl : LendTs σ.mem (args.map σ.get) us) : CallOk P f args σ σ (σ.get x) := by
  refine ⟨hf.1, fun w0 L n a w ⟨c, F, h⟩ => ?_⟩
  refine (hf.2 w (lentI0 c F (oldB w0 L)) (args.map a.eval).toArray (lent_lt h) (by simpa using RTL.lend h (Sup.refl σ) (RTL.evals h args) hl)).mono ?_
  rintro e w' ⟨rfl, hb⟩
  refine ⟨_, c, F, rfl, h.world hb, ?_⟩
  have e : ((args.map a.eval).toArray.toList).getD j default = a.eval x := by
    simp [List.getD_eq_getElem?_getD, List.getElem?_map, hx]
  rw [e]
  exact (h.world hb).get x
/-- A call by a plain contract, as a step of the caller's state. -/
theorem fun_ok {f : FuncId} {us : List T} {r : T} {args : List Operand} (site : Nat) (hf : Fun1 P f us r) (hl : LendTs σ.mem (args.map σ.get) us) (hfr : Fresh σ.mem (openT site r).2) : CallOk P f args σ (σ.adds (openT site r).2) (openT site r).1 := by
  refine ⟨hf.1, fun w0 L n a w ⟨c, F, h⟩ => ?_⟩
  refine (hf.2.2 w (lentI0 c F (oldB w0 L)) (args.map a.eval).toArray (lent_lt h) (by simpa using RTL.lend h (Sup.refl σ) (RTL.evals h args) hl)).mono ?_
  rintro e w' ⟨v, G, rfl, hr, hG, hb⟩
  obtain ⟨c', F', h1, h2⟩ := openT_ok (s := site) (h.world hb) (fun b hb' => by
    have := hG b hb'
    exact ⟨Nat.le_trans h.keeps.size this.1, this.2, fun s hs => by have := (h.new s b hs).2; omega, fun hI => by have := h.imm b hI; omega⟩) hfr (hr.nb hf.2.1)
  exact ⟨v, c', F', rfl, h1, h2⟩
end
end Go.Proofs.Ytlijeincckbdaaa
namespace Go.Proofs.Ytlijeincckbdaaa
open Go.RowKit
set_option linter.unusedSimpArgs false
set_option linter.unusedVariables false
/-- All memory that is there. -/
def cAll (w : World) : Ctx := c0 fun k => k < w.heap.size
/-- A reading of this type is a datum, laid in cells so. -/
def OpensA {α : Type} (P : Program) (t : TypeId) (f : α → List AV) (ok : α → Prop) : Prop :=
  ∀ (H : Type) (enc : TypeId × Value → H) (w : World) (spare : Nat → Bool) (held : Bool) (fuel : Nat) (cs : List Value) (x : DataW H × List MemPlace), DataW.trod enc P w 0 spare held fuel t cs = some x → ∃ y, RL (cAll w) w (f y) cs ∧ ok y
section
variable {P : Program} {t e : TypeId} {α : Type} {f : α → List AV} {ok : α → Prop}
theorem opensA_int (ht : P.underlying t = some (.int .i64)) : OpensA P t (fun n : Int => [.lit (.int .i64 n)]) (fun n => -9223372036854775808 ≤ n ∧ n ≤ 9223372036854775807) := fun H enc w spare held fuel cs x h => by
  obtain ⟨n, rfl, _, hw⟩ := DataW.trod_int ht h
  simp only [Lit.wf, Bool.and_eq_true, decide_eq_true_eq] at hw
  have e1 : IntKind.i64.min = -9223372036854775808 := by rfl
  have e2 : IntKind.i64.max = 9223372036854775807 := by rfl
  exact ⟨n, ⟨⟨.lit _, rfl⟩, trivial⟩, by omega⟩
theorem opensA_byte (ht : P.underlying t = some (.int .u8)) : OpensA P t (fun n : UInt8 => [.lit (.int .u8 (n.toNat : Int))]) (fun _ => True) := fun H enc w spare held fuel cs x h => by
  obtain ⟨n, rfl, _, hw⟩ := DataW.trod_int ht h
  simp only [Lit.wf, Bool.and_eq_true, decide_eq_true_eq] at hw
  have e1 : IntKind.u8.min = 0 := by rfl
  have e2 : IntKind.u8.max = 255 := by rfl
  refine ⟨UInt8.ofNat n.toNat, ⟨⟨?_, rfl⟩, trivial⟩, trivial⟩
  have : ((UInt8.ofNat n.toNat).toNat : Int) = n := by
    rw [UInt8.toNat_ofNat']; omega
  rw [this]; exact .lit _
theorem opensA_str (ht : P.underlying t = some .string) : OpensA P t (fun s : ByteArray => [.lit (.string s)]) (fun s => s.size ≤ 9223372036854775807) := fun H enc w spare held fuel cs x h => by
  obtain ⟨s, rfl, _, hw⟩ := DataW.trod_string ht h
  exact ⟨s, ⟨⟨.lit _, rfl⟩, trivial⟩, hw⟩
theorem opensA_bool (ht : P.underlying t = some .bool) : OpensA P t (fun b : Bool => [.lit (.bool b)]) (fun _ => True) := fun H enc w spare held fuel cs x h => by
  obtain ⟨b, rfl, _⟩ := DataW.trod_bool ht h
  exact ⟨b, ⟨⟨.lit _, rfl⟩, trivial⟩, trivial⟩
theorem opensA_slice {k : Nat} (ht : P.underlying t = some (.slice e)) (hc : P.cellsOf e = k) (hk : 0 < k) (hf : ∀ x, (f x).all AV.isCell = true) (hl : ∀ x, (f x).length = k) (h : OpensA P e f ok) :
    OpensA P t (fun xs : List α => [.row true k (xs.map f)]) (fun xs => xs.length ≤ 9223372036854775807 ∧ ∀ x ∈ xs, ok x) := fun H enc w spare held fuel cs x hx => by
  rcases Go.Deep.open_slice ht hx with ⟨rfl, _⟩ | ⟨a, len, cap, m, n, D, Pl, rfl, _, hlc, hm, hmm, _, hel⟩
  · exact ⟨[], ⟨⟨.row 0 0 (fun _ _ => default) (Nat.le_refl _) (by simp) (by simp) (by simp) (by simp [elt]) (by simp [elt]) (by simp [elt]) (by simp [elt]), rfl⟩, trivial⟩, by simp, fun x hx => by cases hx⟩
  · have hlm : len ≤ m := by rw [hmm]; split <;> omega
    have hspot : 0 < len → a.spot = none ∧ a.block < w.heap.size := fun hp => by
      obtain ⟨cs', h1, _⟩ := hel 0 (by omega)
      obtain ⟨_, h3, h4⟩ := World.cells?_some h1
      rw [hc] at h3 h4
      have h5 := h4 0 hk
      have e0 : (a.add (0 * k)).add 0 = a := by simp [Addr.add]
      rw [e0, show cs'[0]? = some (cs'[0]'(by omega)) by simp] at h5
      unfold World.cell? at h5
      split at h5
      · rename_i hq
        split at h5
        · cases h5
        · rename_i hs
          exact ⟨by simpa using hs, (Array.getElem?_eq_some_iff.1 hq).1⟩
      · cases h5
    have key : ∀ i : Fin len, ∃ y : α, (∃ cs, RL (cAll w) w (f y) cs ∧ cs.length = k ∧ ∀ j v, cs[j]? = some v → w.cell? ⟨a.block, a.off + i.1 * k + j, none⟩ = some v) ∧ ok y := fun i => by
      obtain ⟨cs', h1, h2⟩ := hel i.1 (by have := i.2; omega)
      obtain ⟨y, hy, ho⟩ := h H enc w spare held n cs' _ h2
      obtain ⟨_, h3, h4⟩ := World.cells?_some h1
      rw [hc] at h3 h4
      refine ⟨y, ⟨cs', hy, h3, fun j v hv => ?_⟩, ho⟩
      have hj : j < k := by have := (List.getElem?_eq_some_iff.1 hv).1; omega
      have h5 := h4 j hj
      rw [hv] at h5
      have hsp := (hspot (by have := i.2; omega)).1
      have e1 : (a.add (i.1 * k)).add j = ⟨a.block, a.off + i.1 * k + j, none⟩ := by
        obtain ⟨b, o, sp⟩ := a
        simp only at hsp
        subst hsp
        simp only [Addr.add]
        split <;> split <;> simp_all
      rw [← e1]; exact h5
    let ys : List α := List.ofFn fun i => (key i).choose
    have hys : ys.length = len := by simp [ys]
    have hget : ∀ i (hi : i < len), ys[i]? = some (key ⟨i, hi⟩).choose := fun i hi => by simp [ys, hi]
    have helt : ∀ i j x, elt (ys.map f) i j = some x → ∃ hi : i < len, (f (key ⟨i, hi⟩).choose)[j]? = some x := fun i j x hx => by
      unfold elt at hx
      have hi : i < len := by
        rcases Nat.lt_or_ge i len with h1 | h1
        · exact h1
        · rw [List.getElem?_eq_none (by simp [hys]; exact h1)] at hx; cases hx
      rw [List.getElem?_map, hget i hi] at hx
      exact ⟨hi, hx⟩
    let vals : Nat → Nat → Value := fun i j => if hi : i < len then ((key ⟨i, hi⟩).choose_spec.1.choose[j]?).getD default else default
    have hval : ∀ i j x, elt (ys.map f) i j = some x → ∃ v, vals i j = v ∧ w.cell? ⟨a.block, a.off + i * k + j, none⟩ = some v ∧ (R (cAll w) w x v ∧ v.oneCell' = true) := fun i j x hx => by
      obtain ⟨hi, hx⟩ := helt i j x hx
      obtain ⟨h1, h2, h3⟩ := (key ⟨i, hi⟩).choose_spec.1.choose_spec
      have hj : j < k := by have := (List.getElem?_eq_some_iff.1 hx).1; rw [hl] at this; exact this
      have hv : (key ⟨i, hi⟩).choose_spec.1.choose[j]? = some ((key ⟨i, hi⟩).choose_spec.1.choose[j]'(by omega)) := by simp
      generalize (key ⟨i, hi⟩).choose_spec.1.choose[j]'(by omega) = v at hv
      refine ⟨v, by simp only [vals, dif_pos hi, hv, Option.getD_some], h3 j v hv, h1.at hx hv⟩
    refine ⟨ys, ⟨⟨?_, rfl⟩, trivial⟩, ?_, fun x hx => ?_⟩
    · have hlen : (ys.map f).length = len := by simp [hys]
      have := R.row (c := cAll w) (w := w) (own := true) (sz := k) (es := ys.map f) (A := some a) (cap := cap) a.block a.off vals (by rw [hlen]; exact hlc) hm (fun hp => by
          rw [hlen] at hp
          obtain ⟨h1, h2⟩ := hspot hp
          refine ⟨?_, h2⟩
          cases a; simp only at h1; subst h1; rfl)
        (fun e he => by obtain ⟨y, _, rfl⟩ := List.mem_map.1 he; exact hl y)
        (fun i j x hx => by
          obtain ⟨hi, hx⟩ := helt i j x hx
          exact List.all_eq_true.1 (hf _) x (List.mem_of_getElem? hx))
        (fun i j x hx => by obtain ⟨v, h1, h2, _⟩ := hval i j x hx; rw [h1]; exact h2)
        (fun i j x hx => by obtain ⟨v, h1, _, h2⟩ := hval i j x hx; rw [h1]; exact h2.2)
        (fun i j x hx => by obtain ⟨v, h1, _, h2⟩ := hval i j x hx; rw [h1]; exact h2.1)
      rw [hlen] at this
      exact this
    · rw [hys]; simp only [maxLen] at hm; omega
    · obtain ⟨i, rfl⟩ := List.mem_ofFn.1 hx
      exact (key i).choose_spec.2
theorem OpensA.mono {ok' : α → Prop} (h : OpensA P t f ok) (hk : ∀ x, ok x → ok' x) : OpensA P t f ok' := fun H enc w spare held fuel cs x hx => let ⟨y, hy, ho⟩ := h H enc w spare held fuel cs x hx; ⟨y, hy, hk y ho⟩
/-- A struct's fields, each read. -/
theorem opensA_fields {fs : Array Field} {H : Type} {enc : TypeId × Value → H} {w : World} {spare : Nat → Bool} {held : Bool} {fuel : Nat} {cs : List Value} {x : DataW H × List MemPlace} (ht : P.underlying t = some (.struct fs)) {k : Nat} (hk : P.cellsOf t = k) (h : DataW.trod enc P w 0 spare held fuel t cs = some x) :
    cs.length = k ∧ ∀ (i t' o m : Nat), (fs[i]?).map (fun f => (f.type, f.offset)) = some (t', o) → P.cellsOf t' = m → ∃ n y, DataW.trod enc P w 0 spare held n t' ((cs.drop o).take m) = some y := by
  obtain ⟨xs, n, _, _, hl, hlen, hf⟩ := DataW.trod_struct ht h
  refine ⟨hl.trans hk, fun i t' o m hi hm => ?_⟩
  obtain ⟨f, hi2, e⟩ := Option.map_eq_some_iff.1 hi
  cases e
  subst hm
  have h1 := hf i f hi2
  have : i < xs.length := by have := (Array.getElem?_eq_some_iff.1 hi2).1; omega
  exact ⟨n, xs[i], by rw [h1]; simp [this]⟩
theorem RL.app {c : Ctx} {w : World} : ∀ {xs ys : List AV} {vs us : List Value}, RL c w xs vs → RL c w ys us → RL c w (xs ++ ys) (vs ++ us)
  | [], ys, [], us, _, h => h
  | x :: xs, ys, v :: vs, us, h, h' => ⟨h.1, RL.app h.2 h'⟩
theorem RL_one {w : World} {x : AV} {v : Value} (h : RL (cAll w) w [x] [v]) : RTL (cAll w) w [.one x] [v] := ⟨h.1, trivial⟩
end
end Go.Proofs.Ytlijeincckbdaaa
