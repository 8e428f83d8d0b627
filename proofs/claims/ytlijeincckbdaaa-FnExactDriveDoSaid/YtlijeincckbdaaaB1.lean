/- The abstract machine: a call that writes into what it is lent. -/
import Derived.Test.YtlijeincckbdaaaA12
namespace Go.Proofs.Ytlijeincckbdaaa
open Go.RowKit
set_option linter.unusedSimpArgs false
set_option linter.unusedVariables false

/-- One abstract state says no more than another. -/
def Weak (σ σ' : AS) : Prop := ∀ (w0 : World) (L : Nat → Prop) (n : Nat) (a : Act) (w : World), Holds w0 L n σ a w → Holds w0 L n σ' a w
theorem Weak.refl (σ : AS) : Weak σ σ := fun _ _ _ _ _ h => h
theorem Weak.trans {a b c : AS} (h : Weak a b) (k : Weak b c) : Weak a c := fun _ _ _ _ _ x => k _ _ _ _ _ (h _ _ _ _ _ x)

/-- A state, laid out. -/
def lkT : List (Nat × T) → Nat → T
  | [], _ => .dead
  | (k, v) :: l, t => if t = k then v else lkT l t
def lkM : List (Nat × Blk) → Nat → Option Blk
  | [], _ => none
  | (k, v) :: l, s => if s = k then some v else lkM l s
def AS.of (tl : List (Nat × T)) (ml : List (Nat × Blk)) : AS := ⟨lkT tl, lkM ml⟩

/-- A row at its place, of plain data. -/
def RowAt (w : World) (i : SI) (sz : Nat) (es : List (List AV)) (F : Nat → Prop) : Prop :=
  (i = .nil ∧ es = [] ∧ ∀ k, ¬ F k) ∨ ∃ b cap, i = .row b cap sz ∧ RowB (c0 fun _ => False) w true b cap sz es F

def nbRow (es : List (List AV)) : Bool := es.all fun e => e.all (AV.nb 5)
def nbRows (bs : List (Nat × List (List AV))) : Bool := bs.all fun b => nbRow b.2

/-- Words on a row of plain data hold in every context. -/
theorem RowB.nb {c c' : Ctx} {w : World} {b cap sz : Nat} {es : List (List AV)} {F : Nat → Prop} (h : RowB c w true b cap sz es F) (hn : nbRow es = true) : RowB c' w true b cap sz es F := by
  obtain ⟨C, e, fz, G, a1, a2, a3, a4, a5, a6, a7, a8, a9, a10, a11, a12⟩ := h
  refine ⟨C, e, fz, G, a1, a2, a3, a4, a5, a6, a7, fun i j x v hx hv => .inl (((a8 i j x v hx hv).resolve_right (by simp)).nb 5 ?_), a9, a10, a11, a12⟩
  simp only [nbRow, List.all_eq_true] at hn
  unfold elt at hx
  cases he : es[i]? with
  | none => simp [he] at hx
  | some e => simp [he] at hx; exact hn e (List.mem_of_getElem? he) x (List.mem_of_getElem? hx)

def cAt (at_ : Nat → SI) (n : Nat) : Ctx := ⟨fun i => if i < n then some (at_ i) else none, fun _ => False⟩

/-- THE CONTRACT of a function that writes into the rows that it is lent: row i is named `.loc i 0 _` in the arguments; from bs they turn to bs'. -/
def MutF (P : Program) (f : FuncId) (args : List T) (bs bs' : List (Nat × List (List AV))) (r : Value) : Prop :=
  Callable P f ∧ nbRows bs = true ∧ nbRows bs' = true ∧ bs'.length = bs.length ∧
  ∀ (w : World) (at_ : Nat → SI) (F : Nat → Nat → Prop) (vs : Array Value), RTL (cAt at_ bs.length) w args vs.toList →
    (∀ i sz es, bs[i]? = some (sz, es) → RowAt w (at_ i) sz es (F i)) → (∀ i j k, F i k → F j k → i = j) → (∀ i k, F i k → i < bs.length ∧ k < w.heap.size) →
    Calls P f vs w fun e w' => ∃ F' : Nat → Nat → Prop, e = .returned r ∧ (∀ i sz es, bs'[i]? = some (sz, es) → RowAt w' (at_ i) sz es (F' i)) ∧
      (∀ i j k, F' i k → F' j k → i = j) ∧ (∀ i k, F' i k → i < bs.length ∧ ((∃ j, F j k) ∨ w.heap.size ≤ k) ∧ k < w'.heap.size) ∧ Keeps (fun k => ∃ i, F i k) w w'

/-- It is read alike whatever data are written. -/
def AV.safe : AV → Bool
  | .lit _ | .ptr _ _ | .eptr _ _ _ | .loc _ _ _ | .dead => true
  | _ => false
def T.safe : T → Bool
  | .one x => x.safe
  | .agg xs => xs.all AV.safe
  | .tup ts => ts.all fun t => t.2.all AV.safe
  | .dead => true
def Blk.safe : Blk → Bool
  | .var xs => xs.all AV.safe
  | .row _ _ es => es.all fun e => e.all fun x => x.nb 5 || x.safe
  | _ => true

theorem R.safe {c c' : Ctx} {w w' : World} (h1 : c'.at_ = c.at_) {x : AV} {v : Value} (h : R c w x v) (hs : x.safe = true) : R c' w' x v := by
  cases h with
  | dead v => exact .dead v
  | lit v => exact .lit v
  | ptr h => exact .ptr (by rw [h1]; exact h)
  | eptr h => exact .eptr (by rw [h1]; exact h)
  | loc h a b => exact .loc (by rw [h1]; exact h) a b
  | locnil h => exact .locnil (by rw [h1]; exact h)
  | row => cases hs
  | bptr => cases hs
  | fn => cases hs
  | nn => cases hs
/-- Words on a row without borrowed data hold in every context that has the same places. -/
theorem RowB.safe {c c' : Ctx} {w w' : World} (h1 : c'.at_ = c.at_) {p : Bool} {b cap sz : Nat} {es : List (List AV)} {F : Nat → Prop} (h : RowB c w p b cap sz es F) (hs : (es.all fun e => e.all fun x => x.nb 5 || x.safe) = true)
    (hF : ∀ k, F k → w'.heap[k]? = w.heap[k]?) : RowB c' w' p b cap sz es F := by
  obtain ⟨C, e, fz, G, a1, a2, a3, a4, a5, a6, a7, a8, a9, a10, a11, a12⟩ := h
  refine ⟨C, e, fz, G, (hF b ((a12 b).2 (.inl rfl))).trans a1, a2, a3, a4, a5, a6, a7, fun i j x v hx hv => ?_, a9, a10, a11, a12⟩
  have hxs : (x.nb 5 || x.safe) = true := by
    simp only [List.all_eq_true] at hs
    unfold elt at hx
    cases he : es[i]? with
    | none => simp [he] at hx
    | some e => simp [he] at hx; exact hs e (List.mem_of_getElem? he) x (List.mem_of_getElem? hx)
  rcases a8 i j x v hx hv with h2 | ⟨h2, h3, h4, h5⟩
  · have hn : x.nb 5 = true := by
      rcases Bool.or_eq_true_iff.1 hxs with h6 | h6
      · exact h6
      · have := h2.isCell
        cases x <;> first | rfl | (cases h6; done) | (cases this; done)
    have h7 : RO (c0 fun _ => False) w (G i j) x v := h2.nb 5 hn
    exact .inl ((h7.mono (c' := c0 fun _ => False) (w' := w') (fun _ _ h => h) (fun _ h => h) (fun _ h => h.elim) fun k hk => hF k ((a12 k).2 (.inr ⟨i, j, hk⟩))).nb 5 hn)
  · refine .inr ⟨h2, h3, h4.safe h1 ?_, h5⟩
    rcases Bool.or_eq_true_iff.1 hxs with h6 | h6
    · cases x <;> first | (cases h5; done) | (cases h6; done)
    · exact h6
theorem RL.safe {c c' : Ctx} {w w' : World} (h1 : c'.at_ = c.at_) : ∀ {xs : List AV} {vs : List Value}, RL c w xs vs → xs.all AV.safe = true → RL c' w' xs vs
  | [], [], _, _ => trivial
  | _ :: _, _ :: _, h, hs => by
    simp only [List.all_cons, Bool.and_eq_true] at hs
    exact ⟨⟨h.1.1.safe h1 hs.1, h.1.2⟩, RL.safe h1 h.2 hs.2⟩
theorem RTs.safe {c c' : Ctx} {w w' : World} (h1 : c'.at_ = c.at_) : ∀ {xs : List (Bool × List AV)} {vs : List Value}, RTs c w xs vs → (xs.all fun t => t.2.all AV.safe) = true → RTs c' w' xs vs
  | [], [], _, _ => trivial
  | (false, [x]) :: _, _ :: _, h, hs => by
    simp only [List.all_cons, Bool.and_eq_true, List.all_nil, Bool.and_true] at hs
    exact ⟨⟨h.1.1.safe h1 hs.1, h.1.2⟩, RTs.safe h1 h.2 hs.2⟩
  | (true, _) :: _, .agg _ :: _, h, hs => by
    simp only [List.all_cons, Bool.and_eq_true] at hs
    exact ⟨RL.safe h1 h.1 hs.1, RTs.safe h1 h.2 hs.2⟩
theorem RT.safe {c c' : Ctx} {w w' : World} (h1 : c'.at_ = c.at_) {t : T} {v : Value} (h : RT c w t v) (hs : t.safe = true) : RT c' w' t v := by
  cases t with
  | dead => trivial
  | one x => exact ⟨h.1.safe h1 hs, h.2⟩
  | agg xs => cases v <;> first | exact h.elim | exact RL.safe h1 h hs
  | tup ts => cases v <;> first | exact h.elim | exact RTs.safe h1 h hs

/-- The arguments in the callee's names of places (left) and in the caller's. -/
def RenA (ss : List Nat) : AV → AV → Prop
  | .lit v, .lit u => u = v
  | .loc i o l, .loc s o' l' => ss[i]? = some s ∧ o' = o ∧ l' = l
  | _, _ => False
def RenT (ss : List Nat) : T → T → Prop
  | .one x, .one y => RenA ss x y
  | .agg xs, .agg ys => all2 (RenA ss) xs ys
  | _, _ => False
def RenTs (ss : List Nat) : List T → List T → Prop
  | [], [] => True
  | x :: xs, y :: ys => RenT ss x y ∧ RenTs ss xs ys
  | _, _ => False

def ctxR (c : Ctx) (ss : List Nat) : Nat → SI := fun i => match ss[i]? with
  | some s => (c.at_ s).getD .nil
  | none => .nil

theorem RenA.ok {c : Ctx} {w : World} {ss : List Nat} {x y : AV} {v : Value} (hr : RenA ss x y) (h : R c w y v) : R (cAt (ctxR c ss) ss.length) w x v := by
  unfold RenA at hr
  split at hr
  · subst hr; cases h; exact .lit _
  · rename_i i o l s o' l'
    obtain ⟨hs, rfl, rfl⟩ := hr
    have hi := (List.getElem?_eq_some_iff.1 hs).1
    have hat : ∀ j, c.at_ s = some j → (cAt (ctxR c ss) ss.length).at_ i = some j := fun j hj => by
      simp only [cAt, ctxR, hs, hj, if_pos hi, Option.getD_some]
    cases h with
    | loc h1 a b => exact .loc (hat _ h1) a b
    | locnil h1 => exact .locnil (hat _ h1)
  · exact hr.elim
theorem RenL.ok {c : Ctx} {w : World} {ss : List Nat} : ∀ {xs ys : List AV} {vs : List Value}, all2 (RenA ss) xs ys → RL c w ys vs → RL (cAt (ctxR c ss) ss.length) w xs vs
  | [], [], [], _, _ => trivial
  | _ :: _, _ :: _, _ :: _, hr, h => ⟨⟨hr.1.ok h.1.1, h.1.2⟩, RenL.ok hr.2 h.2⟩
theorem RenT.ok {c : Ctx} {w : World} {ss : List Nat} {x y : T} {v : Value} (hr : RenT ss x y) (h : RT c w y v) : RT (cAt (ctxR c ss) ss.length) w x v := by
  unfold RenT at hr
  split at hr
  · exact ⟨hr.ok h.1, h.2⟩
  · cases v <;> first | exact h.elim | exact RenL.ok hr h
  · exact hr.elim
theorem RenTs.ok {c : Ctx} {w : World} {ss : List Nat} : ∀ {xs ys : List T} {vs : List Value}, RenTs ss xs ys → RTL c w ys vs → RTL (cAt (ctxR c ss) ss.length) w xs vs
  | [], [], [], _, _ => trivial
  | _ :: _, _ :: _, _ :: _, hr, h => ⟨hr.1.ok h.1, RenTs.ok hr.2 h.2⟩

/-- The places behind the call. -/
def updM : List Nat → List (Nat × List (List AV)) → Nat × Blk → Nat × Blk
  | s :: ss, b :: bs, p => if p.1 = s then (s, .row true b.1 b.2) else updM ss bs p
  | _, _, p => p

/-- The rows are there. -/
def hasRows (m : Nat → Option Blk) : List Nat → List (Nat × List (List AV)) → Prop
  | [], [] => True
  | s :: ss, b :: bs => m s = some (.row true b.1 b.2) ∧ hasRows m ss bs
  | _, _ => False
theorem hasRows_len {m : Nat → Option Blk} : ∀ {ss : List Nat} {bs : List (Nat × List (List AV))}, hasRows m ss bs → ss.length = bs.length
  | [], [], _ => rfl
  | _ :: _, _ :: _, h => by simp [hasRows_len h.2]
theorem hasRows_at {m : Nat → Option Blk} : ∀ {ss : List Nat} {bs : List (Nat × List (List AV))}, hasRows m ss bs → ∀ {i s : Nat} {b : Nat × List (List AV)}, ss[i]? = some s → bs[i]? = some b → m s = some (.row true b.1 b.2)
  | [], [], _, i, s, b, h, _ => by simp at h
  | _ :: _, _ :: _, h, 0, s, b, h1, h2 => by simp at h1 h2; subst h1 h2; exact h.1
  | _ :: _, _ :: _, h, i + 1, s, b, h1, h2 => hasRows_at h.2 (by simpa using h1) (by simpa using h2)

/-- What a call that writes asks for: the state as it is laid out ahead of it; the callee's words; the state behind it. -/
def opMark (P : Program) (f : FuncId) (args : List Operand) (σ : AS) (K : AS → T → Prop) : Prop :=
  ∃ tl ml, Weak σ (AS.of tl ml) ∧ ∃ us bs bs' r ss, MutF P f us bs bs' r ∧ RenTs ss us (args.map (AS.of tl ml).get) ∧ hasRows (lkM ml) ss bs ∧ ss.Nodup ∧
    (tl.all fun p => p.2.safe) = true ∧ (ml.all fun p => p.2.safe) = true ∧ r.oneCell' = true ∧ K (AS.of tl (ml.map (updM ss bs'))) (.one (.lit r))

theorem lkM_mem : ∀ {ml : List (Nat × Blk)} {s : Nat} {k : Blk}, lkM ml s = some k → (s, k) ∈ ml
  | [], s, k, h => by simp [lkM] at h
  | (s', k') :: ml, s, k, h => by
    simp only [lkM] at h
    split at h
    · rename_i e; subst e; cases h; simp
    · exact List.mem_cons_of_mem _ (lkM_mem h)
theorem lkT_safe : ∀ {tl : List (Nat × T)}, (tl.all fun p => p.2.safe) = true → ∀ t, (lkT tl t).safe = true
  | [], _, t => rfl
  | (k, v) :: l, h, t => by
    simp only [List.all_cons, Bool.and_eq_true] at h
    simp only [lkT]
    split
    · exact h.1
    · exact lkT_safe h.2 t
theorem updM_fst : ∀ (ss : List Nat) (bs : List (Nat × List (List AV))) (p : Nat × Blk), (updM ss bs p).1 = p.1
  | [], _, _ => rfl
  | _ :: _, [], _ => rfl
  | s :: ss, b :: bs, p => by
    simp only [updM]
    split
    · rename_i e; exact e.symm
    · exact updM_fst ss bs p
theorem updM_old : ∀ {ss : List Nat} {bs : List (Nat × List (List AV))} {p : Nat × Blk}, p.1 ∉ ss → updM ss bs p = p
  | [], _, _, _ => rfl
  | _ :: _, [], _, _ => rfl
  | s :: ss, b :: bs, p, h => by
    simp only [List.mem_cons, not_or] at h
    simp only [updM, if_neg h.1]
    exact updM_old h.2
theorem updM_new : ∀ {ss : List Nat} {bs : List (Nat × List (List AV))} {p : Nat × Blk} {i : Nat} {b : Nat × List (List AV)}, ss.Nodup → ss[i]? = some p.1 → bs[i]? = some b → updM ss bs p = (p.1, .row true b.1 b.2)
  | [], _, _, i, _, _, h, _ => by simp at h
  | _ :: _, [], _, i, _, _, _, h => by simp at h
  | s :: ss, b' :: bs, p, 0, b, hn, h1, h2 => by
    simp at h1 h2
    subst h1 h2
    simp [updM]
  | s :: ss, b' :: bs, p, i + 1, b, hn, h1, h2 => by
    simp only [List.nodup_cons] at hn
    simp at h1 h2
    have hne : p.1 ≠ s := fun e => hn.1 (by rw [← e]; exact List.mem_of_getElem? h1)
    simp only [updM, if_neg hne]
    exact updM_new hn.2 h1 h2
theorem lkM_upd {ss : List Nat} {bs : List (Nat × List (List AV))} : ∀ {ml : List (Nat × Blk)} {s : Nat}, lkM (ml.map (updM ss bs)) s = (lkM ml s).map fun k => (updM ss bs (s, k)).2
  | [], _ => rfl
  | (s', k') :: ml, s => by
    simp only [List.map_cons]
    have h1 := updM_fst ss bs (s', k')
    generalize hq : updM ss bs (s', k') = q at h1
    obtain ⟨q1, q2⟩ := q
    simp only at h1
    subst h1
    simp only [lkM]
    split
    · rename_i e; subst e; simp [hq]
    · exact lkM_upd

section
variable {P : Program} {w0 w : World} {L : Nat → Prop} {n : Nat} {σ : AS} {a : Act} {c : Ctx} {F : Nat → Nat → Prop}

/-- A contract that is a step of the caller's own state. -/
def CallOk (P : Program) (f : FuncId) (args : List Operand) (σ σ' : AS) (t : T) : Prop :=
  Callable P f ∧ ∀ (w0 : World) (L : Nat → Prop) (n : Nat) (a : Act) (w : World), Holds w0 L n σ a w →
    Calls P f (args.map a.eval).toArray w fun e w' => ∃ V c' F', e = .returned V ∧ H w0 L n σ' a w' c' F' ∧ RT c' w' t V
def opOwn (P : Program) (f : FuncId) (args : List Operand) (σ : AS) (K : AS → T → Prop) : Prop := ∃ σ' t, CallOk P f args σ σ' t ∧ K σ' t
theorem opOwn_ok (h0 : Holds w0 L n σ a w) {f : FuncId} {args : List Operand} {K : AS → T → Prop} (hk : opOwn P f args σ K) :
    ∃ σ' v, K σ' v ∧ Callable P f ∧ Calls P f (args.map a.eval).toArray w fun e w' => ∃ V c' F', e = .returned V ∧ H w0 L n σ' a w' c' F' ∧ RT c' w' v V := by
  obtain ⟨σ', t, ⟨hc, hf⟩, hk⟩ := hk
  exact ⟨σ', t, hk, hc, hf _ _ _ _ _ h0⟩

theorem BlkOk.rowAt {F : Nat → Prop} {s sz : Nat} {es : List (List AV)} (h : BlkOk c w F s (.row true sz es)) (hn : nbRow es = true) : ∃ i, c.at_ s = some i ∧ RowAt w i sz es F := by
  rcases h with ⟨h1, h2, h3⟩ | ⟨b, cap, h1, h2⟩
  · exact ⟨_, h1, .inl ⟨rfl, h2, h3⟩⟩
  · exact ⟨_, h1, .inr ⟨b, cap, rfl, h2.nb hn⟩⟩
theorem RowAt.blk {F : Nat → Prop} {s sz : Nat} {es : List (List AV)} {i : SI} (h : RowAt w i sz es F) (hn : nbRow es = true) (hi : c.at_ s = some i) : BlkOk c w F s (.row true sz es) := by
  rcases h with ⟨rfl, h2, h3⟩ | ⟨b, cap, rfl, h2⟩
  · exact .inl ⟨hi, h2, h3⟩
  · exact .inr ⟨b, cap, hi, h2.nb hn⟩

theorem nbRows_at {bs : List (Nat × List (List AV))} (h : nbRows bs = true) {i : Nat} {b : Nat × List (List AV)} (hb : bs[i]? = some b) : nbRow b.2 = true := by
  simp only [nbRows, List.all_eq_true] at h
  exact h b (List.mem_of_getElem? hb)

theorem opMark_ok (h0 : Holds w0 L n σ a w) {f : FuncId} {args : List Operand} {K : AS → T → Prop} (hk : opMark P f args σ K) :
    ∃ σ' v, K σ' v ∧ Callable P f ∧ Calls P f (args.map a.eval).toArray w fun e w' => ∃ V c' F', e = .returned V ∧ H w0 L n σ' a w' c' F' ∧ RT c' w' v V := by
  obtain ⟨tl, ml, hweak, us, bs, bs', r, ss, hf, hren, hrows, hnd, hst, hsm, hr, hk⟩ := hk
  obtain ⟨c, F, h⟩ := hweak _ _ _ _ _ h0
  refine ⟨_, _, hk, hf.1, ?_⟩
  obtain ⟨_, hnb, hnb', hbl, hcall⟩ := hf
  have hlen := hasRows_len hrows
  have hat : ∀ {i s : Nat} {b : Nat × List (List AV)}, ss[i]? = some s → bs[i]? = some b → ∃ j, c.at_ s = some j ∧ ctxR c ss i = j ∧ RowAt w j b.1 b.2 (F s) := fun {i s b} hs hb => by
    obtain ⟨j, h1, h2⟩ := (h.mem s _ (hasRows_at hrows hs hb)).rowAt (nbRows_at hnb hb)
    exact ⟨j, h1, by simp [ctxR, hs, h1], h2⟩
  have hargs : RTL c w (args.map (AS.of tl ml).get) (args.map a.eval) := by
    have : ∀ l : List Operand, RTL c w (l.map (AS.of tl ml).get) (l.map a.eval) := by
      intro l
      induction l with
      | nil => trivial
      | cons x l ih => exact ⟨h.get x, ih⟩
    exact this args
  have hFs : ∀ i k : Nat, (∃ s, ss[i]? = some s ∧ F s k) → i < bs.length ∧ k < w.heap.size := fun i k ⟨s, hs, hk⟩ => ⟨by rw [← hlen]; exact (List.getElem?_eq_some_iff.1 hs).1, (h.new s k hk).2⟩
  refine (hcall w (ctxR c ss) (fun i k => ∃ s, ss[i]? = some s ∧ F s k) (args.map a.eval).toArray (by rw [← hlen]; simpa using hren.ok hargs) (fun i sz es hb => ?_) (fun i j k ⟨s, hs, h1⟩ ⟨s', hs', h2⟩ => ?_) hFs).mono ?_
  · have hi : i < ss.length := by rw [hlen]; exact (List.getElem?_eq_some_iff.1 hb).1
    have hs : ss[i]? = some ss[i] := by simp [hi]
    obtain ⟨j, h1, h2, h3⟩ := hat hs hb
    rw [h2, show (fun k => ∃ s, ss[i]? = some s ∧ F s k) = F ss[i] from funext fun k => propext (by simp [hs])]
    exact h3
  · have := h.disj _ _ _ h1 h2
    subst this
    obtain ⟨hi, e1⟩ := List.getElem?_eq_some_iff.1 hs
    obtain ⟨hj, e2⟩ := List.getElem?_eq_some_iff.1 hs'
    exact (List.getElem_inj hnd).1 (e1.trans e2.symm)
  rintro e w' ⟨F', rfl, hB', hd', hF', hkeep⟩
  -- the new footprints and context
  let c2 : Ctx := ⟨c.at_, fun k => (c.I k ∧ ¬ ∃ i s : Nat, ss[i]? = some s ∧ F s k) ∨ ∃ i s : Nat, ss[i]? = some s ∧ F' i k ∧ ¬ c.top s k⟩
  let F2 : Nat → Nat → Prop := fun s k => (s ∉ ss ∧ F s k) ∨ ∃ i : Nat, ss[i]? = some s ∧ F' i k
  have hblk : ∀ k, k < w.heap.size → (∀ i s : Nat, ss[i]? = some s → ¬ F s k) → w'.heap[k]? = w.heap[k]? := fun k hk hn => hkeep.block k hk fun ⟨i, s, hs, hF⟩ => hn i s hs hF
  have hmemss : ∀ {s : Nat}, s ∈ ss → ∃ i : Nat, ss[i]? = some s := fun {s} hs => List.getElem?_of_mem hs
  have hother : ∀ s k, s ∉ ss → F s k → w'.heap[k]? = w.heap[k]? := fun s k hs hF => hblk k (h.new s k hF).2 fun i s' hs' hF' => by
    have := h.disj _ _ _ hF hF'
    subst this
    exact hs (List.mem_of_getElem? hs')
  have hF2o : ∀ s, s ∉ ss → F2 s = F s := fun s hs => funext fun k => propext ⟨fun h => h.elim (·.2) fun ⟨i, hi, _⟩ => absurd (List.mem_of_getElem? hi) hs, fun h => .inl ⟨hs, h⟩⟩
  have hidx : ∀ {i j s : Nat}, ss[i]? = some s → ss[j]? = some s → i = j := fun {i j s} h1 h2 => by
    obtain ⟨hi, e1⟩ := List.getElem?_eq_some_iff.1 h1
    obtain ⟨hj, e2⟩ := List.getElem?_eq_some_iff.1 h2
    exact (List.getElem_inj hnd).1 (e1.trans e2.symm)
  have hF2n : ∀ {i s : Nat}, ss[i]? = some s → F2 s = F' i := fun {i s} hs => funext fun k => propext ⟨fun h => h.elim (fun h => absurd (List.mem_of_getElem? hs) h.1) fun ⟨j, hj, h⟩ => by rw [hidx hs hj]; exact h, fun h => .inr ⟨i, hs, h⟩⟩
  have hF'k : ∀ i k, F' i k → (∃ j s : Nat, ss[j]? = some s ∧ F s k) ∨ w.heap.size ≤ k := fun i k hk => (hF' i k hk).2.1.imp (fun ⟨j, s, hs, hF⟩ => ⟨j, s, hs, hF⟩) id
  have hcross : ∀ s i k, s ∉ ss → F s k → F' i k → False := fun s i k hs hF hk => by
    rcases hF'k i k hk with ⟨j, s', hs', hF'⟩ | hge
    · have := h.disj _ _ _ hF hF'
      subst this
      exact hs (List.mem_of_getElem? hs')
    · have := (h.new s k hF).2; omega
  have hH : H w0 L n (AS.of tl (ml.map (updM ss bs'))) a w' c2 F2 := by
    refine ⟨⟨hkeep.os.trans h.keeps.os, hkeep.tape.trans h.keeps.tape, hkeep.output.trans h.keeps.output, Nat.le_trans h.keeps.size hkeep.size, fun k hk hl => ?_⟩, h.size, h.defers, fun t => ?_, fun s k hk => ?_, fun s hs => ?_, fun s s' k h1 h2 => ?_, fun s k hk => ?_, fun k hk => ?_, fun s k hk => ?_, fun s v x hk => ?_⟩
    · rw [hblk k (Nat.lt_of_lt_of_le hk h.keeps.size) fun i s hs hF => by rcases (h.new s k hF).1 with h1 | h1; omega; exact hl h1]
      exact h.keeps.block k hk hl
    · exact RT.safe (c := c) (c' := c2) (w := w) (w' := w') rfl (h.tm t) (lkT_safe hst t)
    · simp only [AS.of, lkM_upd] at hk
      cases hq : lkM ml s with
      | none => simp [hq] at hk
      | some q =>
        simp only [hq, Option.map_some, Option.some.injEq] at hk
        have hB := h.mem s q hq
        by_cases hs : s ∈ ss
        · obtain ⟨i, hi⟩ := hmemss hs
          have hil : i < bs.length := by rw [← hlen]; exact (List.getElem?_eq_some_iff.1 hi).1
          have hb : bs[i]? = some bs[i] := by simp [hil]
          have hb' : bs'[i]? = some bs'[i] := by simp [hbl, hil]
          rw [updM_new (p := (s, q)) hnd hi hb'] at hk
          subst hk
          obtain ⟨j, h1, h2, h3⟩ := hat hi hb
          rw [hF2n hi]
          have := hB' i _ _ hb'
          rw [h2] at this
          exact this.blk (nbRows_at hnb' hb') h1
        · rw [updM_old (p := (s, q)) hs] at hk
          subst hk
          rw [hF2o s hs]
          have hsafe : q.safe = true := List.all_eq_true.1 hsm _ (lkM_mem hq)
          cases q with
          | var xs =>
            obtain ⟨b, C, e, fz, a1, a2, a3, a4, a5⟩ := hB
            exact ⟨b, C, e, fz, a1, (hother s b hs ((a5 b).2 rfl)).trans a2, a3, RL.safe (c := c) (c' := c2) (w := w) (w' := w') rfl a4 hsafe, a5⟩
          | row p sz es =>
            rcases hB with ⟨h1, h2, h3⟩ | ⟨b, cap, h1, h2⟩
            · exact .inl ⟨h1, h2, h3⟩
            · exact .inr ⟨b, cap, h1, RowB.safe (c := c) (c' := c2) rfl h2 hsafe fun k hk => hother s k hs hk⟩
          | par v x =>
            exact hB
          | pin s' i => exact hB
    · simp only [AS.of, lkM_upd, Option.map_eq_none_iff] at hs
      have hd := h.dom s hs
      refine ⟨hd.1, fun k hk => ?_⟩
      rcases hk with ⟨_, hk⟩ | ⟨i, hi, _⟩
      · exact hd.2 k hk
      · have hil : i < bs.length := by rw [← hlen]; exact (List.getElem?_eq_some_iff.1 hi).1
        have := hasRows_at hrows hi (b := bs[i]) (by simp [hil])
        rw [hs] at this; cases this
    · rcases h1 with ⟨h1, h1'⟩ | ⟨i, hi, h1⟩ <;> rcases h2 with ⟨h2, h2'⟩ | ⟨j, hj, h2⟩
      · exact h.disj _ _ _ h1' h2'
      · exact (hcross _ _ _ h1 h1' h2).elim
      · exact (hcross _ _ _ h2 h2' h1).elim
      · have := hd' _ _ _ h1 h2
        subst this
        rw [hi] at hj; cases hj; rfl
    · rcases hk with ⟨_, hk⟩ | ⟨i, hi, hk⟩
      · exact ⟨(h.new s k hk).1, Nat.lt_of_lt_of_le (h.new s k hk).2 hkeep.size⟩
      · refine ⟨?_, (hF' i k hk).2.2⟩
        rcases hF'k i k hk with ⟨j, s', _, hF⟩ | hge
        · exact (h.new s' k hF).1
        · exact .inl (Nat.le_trans h.keeps.size hge)
    · rcases hk with ⟨hk, _⟩ | ⟨i, s, _, hk, _⟩
      · exact Nat.lt_of_lt_of_le (h.imm k hk) hkeep.size
      · exact (hF' i k hk).2.2
    · rcases hk with ⟨hs, hk⟩ | ⟨i, hi, hk⟩
      · show c2.I k ↔ ¬ c.top s k
        rw [← h.inn s k hk]
        constructor
        · rintro (⟨h1, _⟩ | ⟨i, s', hs', h1, _⟩)
          · exact h1
          · exact (hcross _ _ _ hs hk h1).elim
        · exact fun h1 => .inl ⟨h1, fun ⟨i, s', hs', hF⟩ => by have := h.disj _ _ _ hk hF; subst this; exact hs (List.mem_of_getElem? hs')⟩
      · show c2.I k ↔ ¬ c.top s k
        constructor
        · rintro (⟨h1, h2⟩ | ⟨j, s', hs', h1, h2⟩)
          · rcases hF'k i k hk with ⟨j, s', hs', hF⟩ | hge
            · exact absurd ⟨j, s', hs', hF⟩ h2
            · have := h.imm k h1; omega
          · have := hd' _ _ _ hk h1
            subst this
            rw [hi] at hs'; cases hs'; exact h2
        · exact fun h1 => .inr ⟨i, s, hi, hk, h1⟩
    · simp only [AS.of, lkM_upd] at hk
      cases hq : lkM ml s with
      | none => simp [hq] at hk
      | some q =>
        simp only [hq, Option.map_some, Option.some.injEq] at hk
        by_cases hs : s ∈ ss
        · obtain ⟨i, hi⟩ := hmemss hs
          have hil : i < bs.length := by rw [← hlen]; exact (List.getElem?_eq_some_iff.1 hi).1
          have hb' : bs'[i]? = some bs'[i] := by simp [hbl, hil]
          rw [updM_new (p := (s, q)) hnd hi hb'] at hk
          cases hk
        · rw [updM_old (p := (s, q)) hs] at hk
          subst hk
          exact h.par s v x hq
  exact ⟨r, c2, F2, rfl, hH, .lit r, hr⟩
end
end Go.Proofs.Ytlijeincckbdaaa
