/- The abstract machine: more words for the walks. -/
import Derived.Test.YtlijeincckbdaaaB3
namespace Go.Proofs.Ytlijeincckbdaaa
open Go.RowKit
set_option linter.unusedSimpArgs false
set_option linter.unusedVariables false

theorem eq_int {t : T} {k : IntKind} {a b : Int} (h : t = .one (.lit (.int k a))) (e : a = b) : t = .one (.lit (.int k b)) := by rw [h, e]
theorem eq_str {t : T} {a b : ByteArray} (h : t = .one (.lit (.string a))) (e : a = b) : t = .one (.lit (.string b)) := by rw [h, e]
theorem eq_bool {t : T} {a b : Bool} (h : t = .one (.lit (.bool a))) (e : a = b) : t = .one (.lit (.bool b)) := by rw [h, e]
theorem eq_loc {t : T} {s o l l' : Nat} (h : t = .one (.loc s o l)) (e : l = l') : t = .one (.loc s o l') := by rw [h, e]
theorem eq_row {t : Option Blk} {p : Bool} {sz : Nat} {es es' : List (List AV)} (h : t = some (.row p sz es)) (e : es = es') : t = some (.row p sz es') := by rw [h, e]
theorem eq_var {t : Option Blk} {xs ys : List AV} (h : t = some (.var xs)) (e : xs = ys) : t = some (.var ys) := by rw [h, e]

/-- A loop's states: one for each datum, with a measure. -/
def LG {α : Type} (I : α → Prop) (m : α → Nat) (S : α → AS) : AS → Nat → Prop := fun σ k => ∃ a, I a ∧ k = m a ∧ σ = S a
theorem lg_init {α : Type} {I : α → Prop} {m : α → Nat} {S : α → AS} {σ : AS} (a : α) (hI : I a) (h : Weak σ (S a)) : ∃ σ' k, Weak σ σ' ∧ LG I m S σ' k := ⟨_, _, h, a, hI, rfl, rfl⟩
theorem lg_back {α : Type} {I : α → Prop} {m : α → Nat} {S : α → AS} {σ : AS} {k : Nat} (a : α) (hI : I a) (hk : m a < k) (h : Weak σ (S a)) : ∃ σ' k', Weak σ σ' ∧ k' < k ∧ LG I m S σ' k' := ⟨_, _, h, hk, a, hI, rfl, rfl⟩

theorem la_lit {m : Nat → Option Blk} {n : Nat} {v u : Value} (h : u = v) : LendA m n (.lit v) (.lit u) := by
  subst h
  cases u with
  | slice A a b => cases A <;> cases a <;> cases b <;> cases n <;> exact Or.inl rfl
  | _ => cases n <;> exact Or.inl rfl
theorem la_cell {m : Nat → Option Blk} {n : Nat} {x : AV} (h : x.isCell = true) : LendA m n x x := by
  cases x with
  | lit v => exact la_lit rfl
  | row o sz es => exact la_row rfl rfl
  | _ => cases h
theorem all2_cell {m : Nat → Option Blk} {n : Nat} : ∀ {xs : List AV}, xs.all AV.isCell = true → all2 (LendA m n) xs xs
  | [], _ => trivial
  | x :: xs, h => by
    simp only [List.all_cons, Bool.and_eq_true] at h
    exact ⟨la_cell h.1, all2_cell h.2⟩
theorem lend_same {m : Nat → Option Blk} {xs ys : List AV} (e : ys = xs) (h : ys.all AV.isCell = true) : LendT m (.agg xs) (.agg ys) := by subst e; exact all2_cell h
theorem la_bor {m : Nat → Option Blk} {n : Nat} {x : AV} (h : x.isCell = true) : LendA m n x.bor x := by
  cases x with
  | lit v => exact la_lit rfl
  | row o sz es => exact la_row rfl rfl
  | _ => cases h
theorem all2_bor {m : Nat → Option Blk} {n : Nat} : ∀ {xs : List AV}, xs.all AV.isCell = true → all2 (LendA m n) (xs.map AV.bor) xs
  | [], _ => trivial
  | x :: xs, h => by
    simp only [List.all_cons, Bool.and_eq_true] at h
    exact ⟨la_bor h.1, all2_bor h.2⟩
theorem lend_bor {m : Nat → Option Blk} {xs ys : List AV} (e : xs = ys.map AV.bor) (h : ys.all AV.isCell = true) : LendT m (.agg xs) (.agg ys) := by subst e; exact all2_bor h
theorem lend_dead {m : Nat → Option Blk} {t : T} : LendT m t .dead := by cases t <;> trivial
theorem la_loc' {m : Nat → Option Blk} {n s off len sz sz' : Nat} {o : Bool} {es es' : List (List AV)} (hm : m s = some (.row true sz es)) (h0 : sz' = sz) (h1 : off + len ≤ es.length) (h : es' = (es.drop off).take len) : LendA m n (.loc s off len) (.row o sz' es') := by
  subst h h0
  cases n <;> simp [LendA, hm, h1]
theorem la_fn {m : Nat → Option Blk} {n : Nat} {f f' : FuncId} {caps caps' : List AV} (h : f' = f) (h2 : all2 (LendA m n) caps caps') : LendA m (n + 1) (.fn f caps) (.fn f' caps') := ⟨h, h2⟩
theorem la_ptr {m : Nat → Option Blk} {n s j j' : Nat} {xs xs' : List AV} (hm : m s = some (.var xs)) (h : j' = j) (h1 : xs'.all AV.isFree = true) (h2 : all2 (LendA m n) xs xs') : LendA m (n + 1) (.ptr s j) (.bptr xs' j') := by
  subst h
  simp only [LendA, hm]
  first | exact ⟨rfl, h1, h2⟩ | exact ⟨trivial, h1, h2⟩
theorem la_bptr {m : Nat → Option Blk} {n j j' : Nat} {xs xs' : List AV} (h : xs' = xs) (h1 : j' = j) : LendA m n (.bptr xs j) (.bptr xs' j') := by cases n <;> exact ⟨h, h1⟩
theorem la_eptr {m : Nat → Option Blk} {n s i j j' : Nat} {sz : Nat} {es : List (List AV)} {e xs' : List AV} (hm : m s = some (.row true sz es)) (he : es[i]? = some e) (h : j' = j) (h1 : xs' = e.map AV.bor) : LendA m (n + 1) (.eptr s i j) (.bptr xs' j') := by
  simp only [LendA, hm]
  exact ⟨e, he, h, h1⟩
theorem at_mid {α : Type} {A B : List α} {x : α} {i : Nat} (h : A.length = i) : (A ++ x :: B)[i]? = some x := by subst h; simp
theorem set_mid {α : Type} {A B : List α} {x y : α} {i : Nat} (h : A.length = i) : A ++ y :: B = (A ++ x :: B).set i y := by subst h; simp
theorem at_eq {α : Type} {es A B : List α} {x : α} {i : Nat} (h : es = A ++ x :: B) (hl : A.length = i) : es[i]? = some x := by rw [h]; exact at_mid hl
theorem set_eq {α : Type} {es A B : List α} {x y : α} {i : Nat} (h : es = A ++ x :: B) (hl : A.length = i) : A ++ y :: B = es.set i y := by rw [h]; exact set_mid hl
theorem at_map {α β : Type} {f : α → β} {l : List α} {i : Nat} (h : i < l.length) : (l.map f)[i]? = some (f l[i]) := by simp [h]
theorem closeTs_nil {m : Nat → Option Blk} : closeTs m [] [] := trivial
theorem closeTs_cons {m : Nat → Option Blk} {x y : Bool × List AV} {xs ys : List (Bool × List AV)} (h0 : x.1 = y.1) (h : closeL m x.2 y.2) (h' : closeTs m xs ys) : closeTs m (x :: xs) (y :: ys) := ⟨h0, h, h'⟩
theorem nbRow_map {α : Type} {f : α → List AV} (h : ∀ x, (f x).all (AV.nb 5) = true) (l : List α) : nbRow (l.map f) = true := by
  simp only [nbRow, List.all_eq_true, List.mem_map, forall_exists_index, and_imp]
  rintro e x _ rfl
  exact List.all_eq_true.1 (h x)
theorem cell_only {l : List Nat} {x : AV} (h : x.isCell = true) : x.only l = true := by cases x <;> first | rfl | cases h
theorem onlyRow {l : List Nat} {es : List (List AV)} (h : cellRow es = true) : (es.all fun e => e.all (AV.only l)) = true := by
  simp only [cellRow, List.all_eq_true] at h
  simp only [List.all_eq_true]
  exact fun e he x hx => cell_only (h e he x hx)
theorem only_mid {l : List Nat} {p : Bool} {sz : Nat} {A B : List (List AV)} {e : List AV} (hA : cellRow A = true) (hB : cellRow B = true) (he : e.all (AV.only l) = true) : (Blk.row p sz (A ++ e :: B)).only l = true := by
  simp only [Blk.only, List.all_append, List.all_cons, Bool.or_eq_true, Bool.and_eq_true]
  exact .inr ⟨onlyRow hA, he, onlyRow hB⟩
theorem onm_cons {l : List Nat} {s : Nat} {k : Blk} {ml : List (Nat × Blk)} (h : k.only l = true) (h' : (ml.all fun p => p.2.only l) = true) : (((s, k) :: ml).all fun p => p.2.only l) = true := by simp [h, h']
theorem onm_nil {l : List Nat} : (([] : List (Nat × Blk)).all fun p => p.2.only l) = true := rfl
theorem allb_nil {α : Type} {p : α → Bool} : ([] : List α).all p = true := rfl
theorem allb_cons {α : Type} {p : α → Bool} {x : α} {xs : List α} (h : p x = true) (h' : xs.all p = true) : (x :: xs).all p = true := by simp [h, h']
theorem sf_nb {x : AV} (h : x.nb 5 = true) : (x.nb 5 || x.safe) = true := by rw [h]; rfl
theorem sf_rows {es : List (List AV)} (h : nbRow es = true) : (es.all fun e => e.all fun x => x.nb 5 || x.safe) = true := by
  simp only [nbRow, List.all_eq_true] at h
  simp only [List.all_eq_true]
  intro e he x hx
  rw [h e he x hx]; rfl
theorem sf_row {p : Bool} {sz : Nat} {es : List (List AV)} (h : nbRow es = true) : (Blk.row p sz es).safe = true := sf_rows h
theorem sf_mid {p : Bool} {sz : Nat} {A B : List (List AV)} {e : List AV} (hA : nbRow A = true) (hB : nbRow B = true) (he : (e.all fun x => x.nb 5 || x.safe) = true) : (Blk.row p sz (A ++ e :: B)).safe = true := by
  simp only [Blk.safe, List.all_append, List.all_cons, Bool.and_eq_true]
  exact ⟨sf_rows hA, he, sf_rows hB⟩
theorem sfm_cons {s : Nat} {k : Blk} {ml : List (Nat × Blk)} (h : k.safe = true) (h' : (ml.all fun p => p.2.safe) = true) : (((s, k) :: ml).all fun p => p.2.safe) = true := by simp [h, h']
theorem sfm_nil : (([] : List (Nat × Blk)).all fun p => p.2.safe) = true := rfl
theorem nbRows_cons {sz : Nat} {es : List (List AV)} {bs : List (Nat × List (List AV))} (h : nbRow es = true) (h' : nbRows bs = true) : nbRows ((sz, es) :: bs) = true := by simp only [nbRows, List.all_cons, Bool.and_eq_true]; exact ⟨h, h'⟩
theorem nbRows_nil : nbRows [] = true := rfl
theorem hasRows_nil {m : Nat → Option Blk} : hasRows m [] [] := trivial
theorem hasRows_cons {m : Nat → Option Blk} {s : Nat} {ss : List Nat} {b : Nat × List (List AV)} {bs : List (Nat × List (List AV))} (h : m s = some (.row true b.1 b.2)) (h' : hasRows m ss bs) : hasRows m (s :: ss) (b :: bs) := ⟨h, h'⟩
theorem rens_nil {ss : List Nat} : RenTs ss [] [] := trivial
theorem rens_cons {ss : List Nat} {x y : T} {xs ys : List T} (h : RenT ss x y) (h' : RenTs ss xs ys) : RenTs ss (x :: xs) (y :: ys) := ⟨h, h'⟩
theorem ren_one {ss : List Nat} {x y : AV} (h : RenA ss x y) : RenT ss (.one x) (.one y) := h
theorem ren_agg {ss : List Nat} {xs ys : List AV} (h : all2 (RenA ss) xs ys) : RenT ss (.agg xs) (.agg ys) := h
theorem ren_int {ss : List Nat} {k : IntKind} {a b : Int} (h : b = a) : RenA ss (.lit (.int k a)) (.lit (.int k b)) := by subst h; exact rfl
theorem nb_row5 {sz : Nat} {es : List (List AV)} (h : (es.all fun e => e.all (AV.nb 4)) = true) : (AV.row true sz es).nb 5 = true := h
/-- The arguments of a law: rows are named by their values, and told at places from 0 on. -/
def litA (u : Nat → Value) (i : Nat) : AV → AV
  | .row _ _ _ => .lit (u i)
  | x => x
def litL (u : Nat → Value) : Nat → List AV → List AV
  | _, [] => []
  | i, x :: xs => litA u i x :: litL u (i + 1) xs
def T.wid : T → Nat
  | .one _ => 1
  | .agg xs => xs.length
  | _ => 0
def litT (u : Nat → Value) (i : Nat) : T → T
  | .one x => .one (litA u i x)
  | .agg xs => .agg (litL u i xs)
  | t => t
def litTs (u : Nat → Value) : Nat → List T → List T
  | _, [] => []
  | i, t :: ts => litT u i t :: litTs u (i + t.wid) ts
def flatT : T → List AV
  | .one x => [x]
  | .agg xs => xs
  | _ => []
def flatTs : List T → List AV
  | [] => []
  | t :: ts => flatT t ++ flatTs ts
def parM (u : Nat → Value) (args : List T) (s : Nat) : Option Blk := match (flatTs args)[s]? with
  | some (.row o sz es) => some (.par (u s) (.row o sz es))
  | _ => none
def flatV : List T → List Value → List Value
  | .one _ :: ts, v :: vs => v :: flatV ts vs
  | .agg _ :: ts, .agg us :: vs => us.toList ++ flatV ts vs
  | _ :: ts, _ :: vs => flatV ts vs
  | _, _ => []

section
variable {P : Program} {w : World} {I : Nat → Prop}
theorem litA_ok {c : Ctx} (hc : ∀ b, I b → c.I b) {u : Nat → Value} {i : Nat} {x : AV} {v : Value} (h : R (c0 I) w x v) (hu : u i = v) : R c w (litA u i x) v := by
  have h' : R c w x v := h.mono (fun s j hs => by cases hs) hc (fun _ _ => rfl)
  cases x <;> first | exact h' | (subst hu; exact .lit _)
theorem litL_ok {c : Ctx} (hc : ∀ b, I b → c.I b) {u : Nat → Value} : ∀ {xs : List AV} {vs : List Value} {i : Nat}, RL (c0 I) w xs vs → (∀ j v, vs[j]? = some v → u (i + j) = v) → RL c w (litL u i xs) vs
  | [], [], _, _, _ => trivial
  | x :: xs, v :: vs, i, h, hu => ⟨⟨litA_ok hc h.1.1 (hu 0 v rfl), h.1.2⟩, litL_ok hc h.2 fun j v' hv => by have := hu (j + 1) v' (by simpa using hv); rw [show i + 1 + j = i + (j + 1) by omega]; exact this⟩
theorem litTs_ok {c : Ctx} (hc : ∀ b, I b → c.I b) {u : Nat → Value} : ∀ {ts : List T} {vs : List Value} {i : Nat}, (ts.all fun t => match t with | .one _ => true | .agg _ => true | _ => false) = true → RTL (c0 I) w ts vs → (∀ j v, (flatV ts vs)[j]? = some v → u (i + j) = v) → RTL c w (litTs u i ts) vs
  | [], [], _, _, _, _ => trivial
  | .one x :: ts, v :: vs, i, ha, h, hu => ⟨⟨litA_ok hc h.1.1 (hu 0 v rfl), h.1.2⟩, litTs_ok hc (by simpa using ha) h.2 fun j v' hv => by have := hu (j + 1) v' (by simpa [flatV] using hv); rw [show i + T.wid (.one x) + j = i + (j + 1) by simp only [T.wid]; omega]; exact this⟩
  | .agg xs :: ts, .agg us :: vs, i, ha, h, hu => ⟨litL_ok hc h.1 fun j v' hv => hu j v' (by simp only [flatV]; rw [List.getElem?_append_left (by exact (List.getElem?_eq_some_iff.1 hv).1)]; exact hv), litTs_ok hc (by simpa using ha) h.2 fun j v' hv => by
      have hl : xs.length = us.toList.length := RL.length h.1
      have := hu (us.toList.length + j) v' (by simp only [flatV]; rw [List.getElem?_append_right (by omega)]; simpa using hv)
      rw [show i + T.wid (.agg xs) + j = i + (us.toList.length + j) by simp only [T.wid]; omega]; exact this⟩
theorem flat_ok {c : Ctx} : ∀ {ts : List T} {vs : List Value}, (ts.all fun t => match t with | .one _ => true | .agg _ => true | _ => false) = true → RTL c w ts vs → RL c w (flatTs ts) (flatV ts vs)
  | [], [], _, _ => trivial
  | .one x :: ts, v :: vs, ha, h => ⟨h.1, flat_ok (by simpa using ha) h.2⟩
  | .agg xs :: ts, .agg us :: vs, ha, h => by
    simp only [flatTs, flatT, flatV]
    have h2 := flat_ok (ts := ts) (vs := vs) (by simpa using ha) h.2
    have key : ∀ {xs ys : List AV} {vs us : List Value}, RL c w xs vs → RL c w ys us → RL c w (xs ++ ys) (vs ++ us) := by
      intro xs
      induction xs with
      | nil => intro ys vs us h h'; cases vs with | nil => exact h' | cons => exact h.elim
      | cons x xs ih => intro ys vs us h h'; cases vs with | nil => exact h.elim | cons v vs => exact ⟨h.1, ih h.2 h'⟩
    exact key h.1 h2

/-- THE RULE OF A LAW: as the rule of a function; its arguments' rows are kept by their values over all that is written. -/
theorem law_of_vc {E : Tab} (hE : E.ok P) {f : FuncId} {fn : Func} {x : Code} {args : List T} {r : T} (hmix : P.follows .mixedOrders = true) (hf : P.funcs[f]? = some fn) (hb : fn.body = some x) (hname : (fn.name == "runtime.NumGoroutine") = false)
    (hok : okCode E fn.ntmps x = true) (hlen : args.length ≤ fn.ntmps) (hnb : r.nb = true) (ha : (args.all fun t => match t with | .one _ => true | .agg _ => true | _ => false) = true)
    (h : ∀ u : Nat → Value, vcCode P E x (fin E fn.results.toList r) (fun _ _ => False) (fin E fn.results.toList r) ⟨fun t => (litTs u 0 args).getD t .dead, parM u args⟩) : Fun1 P f args r := by
  refine ⟨⟨fn, hf, by simp [hb], hname⟩, hnb, fun w I vs hI hargs => ?_⟩
  let u : Nat → Value := fun i => (flatV args vs.toList).getD i default
  have hu : ∀ j v, (flatV args vs.toList)[j]? = some v → u j = v := fun j v hv => by simp [u, List.getD_eq_getElem?_getD, hv]
  let c : Ctx := ⟨fun s => if (parM u args s).isSome then some .nil else none, I⟩
  have hargs' : RTL c w (litTs u 0 args) vs.toList := litTs_ok (c := c) (fun _ h => h) ha hargs (fun j v hv => by rw [Nat.zero_add]; exact hu j v hv)
  have hll : ∀ {ts : List T} {i : Nat}, (litTs u i ts).length = ts.length := by
    intro ts
    induction ts with
    | nil => intro i; rfl
    | cons t ts ih => intro i; simp [litTs, ih]
  have hvl : vs.toList.length = args.length := by
    have : ∀ {ts : List T} {us : List Value}, RTL (c0 I) w ts us → us.length = ts.length := by
      intro ts
      induction ts with
      | nil => intro us h; cases us with | nil => rfl | cons => exact h.elim
      | cons t ts ih => intro us h; cases us with | nil => exact h.elim | cons u us => simp [ih h.2]
    exact this hargs
  have hat : ∀ {ts : List T} {us : List Value}, RTL c w ts us → ∀ t : Nat, RT c w (ts.getD t .dead) (us.getD t undef) := by
    intro ts
    induction ts with
    | nil => intro us h t; trivial
    | cons t ts ih =>
      intro us h k
      cases us with
      | nil => exact h.elim
      | cons u us =>
        cases k with
        | zero => exact h.1
        | succ k => exact ih h.2 k
  refine calls_of_wp hf hb ?_
  have hH : H w (fun _ => False) fn.ntmps ⟨fun t => (litTs u 0 args).getD t .dead, parM u args⟩ { tmps := vs ++ Array.replicate (fn.ntmps - vs.size) undef, defers := [] } w c (fun _ _ => False) := by
    have hvs : vs.size = args.length := by simpa using hvl
    refine { keeps := ⟨rfl, rfl, rfl, Nat.le_refl _, fun _ _ _ => rfl⟩, size := by simp; omega, defers := rfl, tm := fun t => ?_, mem := fun s k hk => ?_, dom := fun s hs => ?_, disj := fun _ _ _ h => h.elim, new := fun _ _ h => h.elim, imm := hI, inn := fun _ _ h => h.elim, par := fun s v x hk => ?_ }
    · have := hat hargs' t
      by_cases ht : t < vs.size
      · have e : (vs ++ Array.replicate (fn.ntmps - vs.size) undef).getD t undef = vs.toList.getD t undef := by
          rw [Array.getD_eq_getD_getElem?, Array.getElem?_append_left ht]
          simp
        rw [e]; exact this
      · have e : (litTs u 0 args).getD t .dead = .dead := by rw [List.getD_eq_getElem?_getD, List.getElem?_eq_none (by rw [hll]; omega)]; rfl
        show RT _ _ ((litTs u 0 args).getD t .dead) _
        rw [e]; trivial
    · replace hk : parM u args s = some k := hk
      have hat0 : c.at_ s = some .nil := by simp [c, hk]
      unfold parM at hk
      split at hk
      · cases hk; exact ⟨hat0, fun _ h => h⟩
      · cases hk
    · replace hs : parM u args s = none := hs
      exact ⟨by simp [c, hs], fun _ h => h⟩
    · replace hk : parM u args s = some (.par v x) := hk
      unfold parM at hk
      split at hk
      · rename_i o sz es hg
        · cases hk
          refine ⟨rfl, ?_⟩
          have hfl := flat_ok ha hargs
          have hi := (List.getElem?_eq_some_iff.1 hg).1
          have hl := RL.length hfl
          have hv : (flatV args vs.toList)[s]? = some ((flatV args vs.toList)[s]'(by omega)) := by simp
          have := (hfl.at hg hv).1
          rw [hu _ _ hv]
          exact R.free (c := c0 I) (fun b (hb : I b) => (show oldB w (fun _ => False) b from ⟨hI b hb, fun h => h⟩)) (fun _ _ => rfl) this rfl
      · cases hk
  have done : ∀ σ' a' w', Holds w (fun _ => False) fn.ntmps σ' a' w' → fin E fn.results.toList r σ' → a'.defers = [] ∧ ∃ V, (results fn a'.tmps).run P w' = .ok V w' ∧ ∃ v F, Ending.returned V = .returned v ∧ ROT' (c0 I) w' F r v ∧ (∀ k, F k → w.heap.size ≤ k ∧ k < w'.heap.size) ∧ Below w.heap.size w w' := by
    rintro σ' a' w' ⟨c', F', h'⟩ hf'
    obtain ⟨V, h1, G, h2, h3⟩ := fin_ok hE h' hf'
    refine ⟨h'.defers, V, h1, V, G, rfl, h2.nb hnb, fun k hk => ?_, ⟨h'.keeps.os, h'.keeps.tape, h'.keeps.output, h'.keeps.size, fun k hk => h'.keeps.block k hk (fun h => h)⟩⟩
    obtain ⟨s, hs⟩ := h3 k hk
    have := h'.new s k hs
    exact ⟨this.1.resolve_right (fun h => h), this.2⟩
  exact vc_ok hE hmix x (n := fn.ntmps) (w0 := w) (L := fun _ => False) hok (fun σ' a' w' h1 h2 => done σ' a' w' h1 h2) (fun _ _ _ _ _ h => h.elim) (fun σ' a' w' h1 h2 => done σ' a' w' h1 h2) (h u) ⟨_, _, hH⟩
end
/-- A row is nil, or it is not. -/
theorem fun1_nil {P : Program} {f : FuncId} {o : Bool} {sz : Nat} {es : List (List AV)} {rest : List T} {r : T} (h0 : es = [] → ∀ c, Fun1 P f (.one (.lit (.slice none 0 c)) :: rest) r) (h1 : Fun1 P f (.one (.nn sz es) :: rest) r) : Fun1 P f (.one (.row o sz es) :: rest) r := by
  refine ⟨h1.1, h1.2.1, fun w I vs hI hargs => ?_⟩
  generalize hvs : vs.toList = us at hargs
  cases us with
  | nil => exact hargs.elim
  | cons v us =>
    obtain ⟨⟨hR, hone⟩, hrest⟩ := hargs
    generalize hx : AV.row o sz es = x at hR
    cases hR with
    | @row own sz' es' A cap b o' vals a1 a2 a3 a4 a0 a5 a6 a7 =>
      cases hx
      cases A with
      | none =>
        have hes : es = [] := by
          rcases Nat.eq_zero_or_pos es.length with e | e
          · exact List.eq_nil_of_length_eq_zero e
          · have := (a3 e).1; cases this
        subst hes
        refine (h0 rfl cap).2.2 w I vs hI ?_
        rw [hvs]
        exact ⟨⟨.lit _, hone⟩, hrest⟩
      | some A =>
        refine h1.2.2 w I vs hI ?_
        rw [hvs]
        exact ⟨⟨.nn (R.anyOwn (o := o) (o' := false) (.row b o' vals a1 a2 a3 a4 a0 a5 a6 a7)), hone⟩, hrest⟩
    | _ => cases hx
/-- A nil slice is a row of no elements, at a place of its own. -/
theorem weak_nil {σ τ : AS} (t s sz : Nat) (ht : σ.tm t = .one (.lit (.slice none 0 0))) (hs : σ.mem s = none) (hw : Weak ⟨fun k => if k = t then .one (.loc s 0 0) else σ.tm k, (σ.add s (.row true sz [])).mem⟩ τ) : Weak σ τ := by
  rintro w0 L n a w ⟨c, F, h⟩
  have h1 := h.addSite' (s := s) (k := .row true sz []) (i := .nil) (G := fun _ => False) hs (fun _ hb => hb.elim) (fun _ _ hb => hb.elim) (.inl ⟨by simp [Ctx.add], rfl, fun _ h => h⟩)
  refine hw _ _ _ _ _ ⟨_, _, h1.keeps, h1.size, h1.defers, fun k => ?_, h1.mem, h1.dom, h1.disj, h1.new, h1.imm, h1.inn, h1.par⟩
  by_cases e : k = t
  · subst e
    have h2 := h.tm k
    rw [ht] at h2
    simp only [if_true]
    have h3 := one_lit h2
    rw [h3]
    exact ⟨.locnil (by simp [Ctx.add]), rfl⟩
  · simp only [if_neg e]
    exact h1.tm k
/-- A nil slice in a variable is a row of no elements, at a place of its own. -/
theorem weak_nilv {σ τ : AS} (r s sz : Nat) (xs ys : List AV) (hr : σ.mem r = some (.var (xs ++ .lit (.slice none 0 0) :: ys))) (hs : σ.mem s = none) (hw : Weak ((σ.add s (.row true sz [])).set r (.var (xs ++ .loc s 0 0 :: ys))) τ) : Weak σ τ := by
  rintro w0 L n a w ⟨c, F, h⟩
  have h1 := h.addSite' (s := s) (k := .row true sz []) (i := .nil) (G := fun _ => False) hs (fun _ hb => hb.elim) (fun _ _ hb => hb.elim) (.inl ⟨by simp [Ctx.add], rfl, fun _ h => h⟩)
  have hne : r ≠ s := fun e => by subst e; rw [hr] at hs; cases hs
  have hr' : (σ.add s (.row true sz [])).mem r = some (.var (xs ++ .lit (.slice none 0 0) :: ys)) := by simp only [AS.add, if_neg hne]; exact hr
  have hb := h1.mem r _ hr'
  refine hw _ _ _ _ _ ⟨_, _, h1.setBlk (k' := .var (xs ++ .loc s 0 0 :: ys)) hr' (fun _ h => h) (fun _ _ => rfl) rfl rfl rfl rfl ?_⟩
  obtain ⟨b, C, e, fz, a1, a2, a3, a4, a5⟩ := hb
  refine ⟨b, C, e, fz, a1, a2, a3, RL.of (by have := a4.length; simpa using this) fun i x v hx hv => ?_, a5⟩
  rcases get_mid hx with ⟨hi, hx⟩ | ⟨rfl, rfl⟩ | ⟨hi, hx⟩
  · exact a4.at (i := i) (by rw [List.getElem?_append_left hi]; exact hx) hv
  · have := a4.at (i := xs.length) (x := .lit (.slice none 0 0)) (by simp) hv
    have h2 := this.1
    cases h2
    exact ⟨.locnil (by simp [Ctx.add]), rfl⟩
  · exact a4.at (i := i) (by rw [List.getElem?_append_right (by omega), show i - xs.length = (i - xs.length - 1) + 1 by omega, List.getElem?_cons_succ]; exact hx) hv
end Go.Proofs.Ytlijeincckbdaaa
