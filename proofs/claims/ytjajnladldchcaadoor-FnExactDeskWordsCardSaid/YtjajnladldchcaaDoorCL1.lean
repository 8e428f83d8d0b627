/- Texts of the proof: an abstract machine for Go functions, contracts of the program's functions, and the row. -/
import Derived.Test.YtjajnladldchcaaDoorCL0
import Derived.Test.YtjajnladldchcaaDoorChecked
import Derived.KernelRfl
namespace Go.Proofs.YtjajnladldchcaaDoor
open Go.RowKit
set_option linter.unusedSimpArgs false
set_option linter.unusedVariables false

def Weak (σ σ' : AS) : Prop := ∀ (w0 : World) (L : Nat → Prop) (n : Nat) (a : Act) (w : World), Holds w0 L n σ a w → Holds w0 L n σ' a w
theorem Weak.refl (σ : AS) : Weak σ σ := fun _ _ _ _ _ h => h
theorem Weak.trans {a b c : AS} (h : Weak a b) (k : Weak b c) : Weak a c := fun _ _ _ _ _ x => k _ _ _ _ _ (h _ _ _ _ _ x)

def lkT : List (Nat × T) → Nat → T
  | [], _ => .dead
  | (k, v) :: l, t => if t = k then v else lkT l t
def lkM : List (Nat × Blk) → Nat → Option Blk
  | [], _ => none
  | (k, v) :: l, s => if s = k then some v else lkM l s
def AS.of (tl : List (Nat × T)) (ml : List (Nat × Blk)) : AS := ⟨lkT tl, lkM ml⟩

def RowAt (w : World) (i : SI) (sz : Nat) (es : List (List AV)) (F : Nat → Prop) : Prop :=
  (i = .nil ∧ es = [] ∧ ∀ k, ¬ F k) ∨ ∃ b cap, i = .row b cap sz ∧ RowB (c0 fun _ => False) w true b cap sz es F

def nbRow (es : List (List AV)) : Bool := es.all fun e => e.all (AV.nb 5)
def nbRows (bs : List (Nat × List (List AV))) : Bool := bs.all fun b => nbRow b.2

theorem RowB.nb {c c' : Ctx} {w : World} {b cap sz : Nat} {es : List (List AV)} {F : Nat → Prop} (h : RowB c w true b cap sz es F) (hn : nbRow es = true) : RowB c' w true b cap sz es F := by
  obtain ⟨C, e, fz, G, a1, a2, a3, a4, a5, a6, a7, a8, a9, a10, a11, a12⟩ := h
  refine ⟨C, e, fz, G, a1, a2, a3, a4, a5, a6, a7, fun i j x v hx hv => .inl (((a8 i j x v hx hv).resolve_right (by simp)).nb 5 ?_), a9, a10, a11, a12⟩
  simp only [nbRow, List.all_eq_true] at hn
  unfold elt at hx
  cases he : es[i]? with
  | none => simp [he] at hx
  | some e => simp [he] at hx; exact hn e (List.mem_of_getElem? he) x (List.mem_of_getElem? hx)

def cAt (at_ : Nat → SI) (n : Nat) : Ctx := ⟨fun i => if i < n then some (at_ i) else none, fun _ => False⟩

def MutF (P : Program) (f : FuncId) (args : List T) (bs bs' : List (Nat × List (List AV))) (r : Value) : Prop :=
  Callable P f ∧ nbRows bs = true ∧ nbRows bs' = true ∧ bs'.length = bs.length ∧
  ∀ (w : World) (at_ : Nat → SI) (F : Nat → Nat → Prop) (vs : Array Value), RTL (cAt at_ bs.length) w args vs.toList → GlW w (fun k => k < w.heap.size ∧ ¬ ∃ i, F i k) →
    (∀ i sz es, bs[i]? = some (sz, es) → RowAt w (at_ i) sz es (F i)) → (∀ i j k, F i k → F j k → i = j) → (∀ i k, F i k → i < bs.length ∧ k < w.heap.size) →
    Calls P f vs w fun e w' => ∃ F' : Nat → Nat → Prop, e = .returned r ∧ (∀ i sz es, bs'[i]? = some (sz, es) → RowAt w' (at_ i) sz es (F' i)) ∧
      (∀ i j k, F' i k → F' j k → i = j) ∧ (∀ i k, F' i k → i < bs.length ∧ ((∃ j, F j k) ∨ w.heap.size ≤ k) ∧ k < w'.heap.size) ∧ Keeps (fun k => ∃ i, F i k) w w'

def AV.safe : AV → Bool
  | .lit _ | .ptr _ _ | .eptr _ _ _ | .loc _ _ _ | .dead => true
  | _ => false
def T.safe : T → Bool
  | .one x => x.safe
  | .agg xs => xs.all AV.safe
  | .tup ts => ts.all fun t => t.2.all AV.safe
  | .dead => true
def Blk.safe : Blk → Bool
  | .var xs => xs.all AV.safe
  | .row _ _ es => es.all fun e => e.all fun x => x.nb 5 || x.safe
  | _ => true

theorem R.safe {c c' : Ctx} {w w' : World} (h1 : c'.at_ = c.at_) {x : AV} {v : Value} (h : R c w x v) (hs : x.safe = true) : R c' w' x v := by
  cases h with
  | dead v => exact .dead v
  | lit v => exact .lit v
  | ptr h => exact .ptr (by rw [h1]; exact h)
  | eptr h => exact .eptr (by rw [h1]; exact h)
  | loc h a b => exact .loc (by rw [h1]; exact h) a b
  | locnil h => exact .locnil (by rw [h1]; exact h)
  | row => cases hs
  | bptr => cases hs
  | fn => cases hs
  | nn => cases hs
theorem RowB.safe {c c' : Ctx} {w w' : World} (h1 : c'.at_ = c.at_) {p : Bool} {b cap sz : Nat} {es : List (List AV)} {F : Nat → Prop} (h : RowB c w p b cap sz es F) (hs : (es.all fun e => e.all fun x => x.nb 5 || x.safe) = true)
    (hF : ∀ k, F k → w'.heap[k]? = w.heap[k]?) : RowB c' w' p b cap sz es F := by
  obtain ⟨C, e, fz, G, a1, a2, a3, a4, a5, a6, a7, a8, a9, a10, a11, a12⟩ := h
  refine ⟨C, e, fz, G, (hF b ((a12 b).2 (.inl rfl))).trans a1, a2, a3, a4, a5, a6, a7, fun i j x v hx hv => ?_, a9, a10, a11, a12⟩
  have hxs : (x.nb 5 || x.safe) = true := by
    simp only [List.all_eq_true] at hs
    unfold elt at hx
    cases he : es[i]? with
    | none => simp [he] at hx
    | some e => simp [he] at hx; exact hs e (List.mem_of_getElem? he) x (List.mem_of_getElem? hx)
  rcases a8 i j x v hx hv with h2 | ⟨h2, h3, h4, h5⟩
  · have hn : x.nb 5 = true := by
      rcases Bool.or_eq_true_iff.1 hxs with h6 | h6
      · exact h6
      · have := h2.isCell
        cases x <;> first | rfl | (cases h6; done) | (cases this; done)
    have h7 : RO (c0 fun _ => False) w (G i j) x v := h2.nb 5 hn
    exact .inl ((h7.mono (c' := c0 fun _ => False) (w' := w') (fun _ _ h => h) (fun _ h => h) (fun _ h => h.elim) fun k hk => hF k ((a12 k).2 (.inr ⟨i, j, hk⟩))).nb 5 hn)
  · refine .inr ⟨h2, h3, h4.safe h1 ?_, h5⟩
    rcases Bool.or_eq_true_iff.1 hxs with h6 | h6
    · cases x <;> first | (cases h5; done) | (cases h6; done)
    · exact h6
theorem RL.safe {c c' : Ctx} {w w' : World} (h1 : c'.at_ = c.at_) : ∀ {xs : List AV} {vs : List Value}, RL c w xs vs → xs.all AV.safe = true → RL c' w' xs vs
  | [], [], _, _ => trivial
  | _ :: _, _ :: _, h, hs => by
    simp only [List.all_cons, Bool.and_eq_true] at hs
    exact ⟨⟨h.1.1.safe h1 hs.1, h.1.2⟩, RL.safe h1 h.2 hs.2⟩
theorem RTs.safe {c c' : Ctx} {w w' : World} (h1 : c'.at_ = c.at_) : ∀ {xs : List (Bool × List AV)} {vs : List Value}, RTs c w xs vs → (xs.all fun t => t.2.all AV.safe) = true → RTs c' w' xs vs
  | [], [], _, _ => trivial
  | (false, [x]) :: _, _ :: _, h, hs => by
    simp only [List.all_cons, Bool.and_eq_true, List.all_nil, Bool.and_true] at hs
    exact ⟨⟨h.1.1.safe h1 hs.1, h.1.2⟩, RTs.safe h1 h.2 hs.2⟩
  | (true, _) :: _, .agg _ :: _, h, hs => by
    simp only [List.all_cons, Bool.and_eq_true] at hs
    exact ⟨RL.safe h1 h.1 hs.1, RTs.safe h1 h.2 hs.2⟩
theorem RT.safe {c c' : Ctx} {w w' : World} (h1 : c'.at_ = c.at_) {t : T} {v : Value} (h : RT c w t v) (hs : t.safe = true) : RT c' w' t v := by
  cases t with
  | dead => trivial
  | one x => exact ⟨h.1.safe h1 hs, h.2⟩
  | agg xs => cases v <;> first | exact h.elim | exact RL.safe h1 h hs
  | tup ts => cases v <;> first | exact h.elim | exact RTs.safe h1 h hs

def RenA (ss : List Nat) : AV → AV → Prop
  | .lit v, .lit u => u = v
  | .loc i o l, .loc s o' l' => ss[i]? = some s ∧ o' = o ∧ l' = l
  | _, _ => False
def RenT (ss : List Nat) : T → T → Prop
  | .one x, .one y => RenA ss x y
  | .agg xs, .agg ys => all2 (RenA ss) xs ys
  | _, _ => False
def RenTs (ss : List Nat) : List T → List T → Prop
  | [], [] => True
  | x :: xs, y :: ys => RenT ss x y ∧ RenTs ss xs ys
  | _, _ => False

def ctxR (c : Ctx) (ss : List Nat) : Nat → SI := fun i => match ss[i]? with
  | some s => (c.at_ s).getD .nil
  | none => .nil

theorem RenA.ok {c : Ctx} {w : World} {ss : List Nat} {x y : AV} {v : Value} (hr : RenA ss x y) (h : R c w y v) : R (cAt (ctxR c ss) ss.length) w x v := by
  unfold RenA at hr
  split at hr
  · subst hr; cases h; exact .lit _
  · rename_i i o l s o' l'
    obtain ⟨hs, rfl, rfl⟩ := hr
    have hi := (List.getElem?_eq_some_iff.1 hs).1
    have hat : ∀ j, c.at_ s = some j → (cAt (ctxR c ss) ss.length).at_ i = some j := fun j hj => by
      simp only [cAt, ctxR, hs, hj, if_pos hi, Option.getD_some]
    cases h with
    | loc h1 a b => exact .loc (hat _ h1) a b
    | locnil h1 => exact .locnil (hat _ h1)
  · exact hr.elim
theorem RenL.ok {c : Ctx} {w : World} {ss : List Nat} : ∀ {xs ys : List AV} {vs : List Value}, all2 (RenA ss) xs ys → RL c w ys vs → RL (cAt (ctxR c ss) ss.length) w xs vs
  | [], [], [], _, _ => trivial
  | _ :: _, _ :: _, _ :: _, hr, h => ⟨⟨hr.1.ok h.1.1, h.1.2⟩, RenL.ok hr.2 h.2⟩
theorem RenT.ok {c : Ctx} {w : World} {ss : List Nat} {x y : T} {v : Value} (hr : RenT ss x y) (h : RT c w y v) : RT (cAt (ctxR c ss) ss.length) w x v := by
  unfold RenT at hr
  split at hr
  · exact ⟨hr.ok h.1, h.2⟩
  · cases v <;> first | exact h.elim | exact RenL.ok hr h
  · exact hr.elim
theorem RenTs.ok {c : Ctx} {w : World} {ss : List Nat} : ∀ {xs ys : List T} {vs : List Value}, RenTs ss xs ys → RTL c w ys vs → RTL (cAt (ctxR c ss) ss.length) w xs vs
  | [], [], [], _, _ => trivial
  | _ :: _, _ :: _, _ :: _, hr, h => ⟨hr.1.ok h.1, RenTs.ok hr.2 h.2⟩

def updM : List Nat → List (Nat × List (List AV)) → Nat × Blk → Nat × Blk
  | s :: ss, b :: bs, p => if p.1 = s then (s, .row true b.1 b.2) else updM ss bs p
  | _, _, p => p

def hasRows (m : Nat → Option Blk) : List Nat → List (Nat × List (List AV)) → Prop
  | [], [] => True
  | s :: ss, b :: bs => m s = some (.row true b.1 b.2) ∧ hasRows m ss bs
  | _, _ => False
theorem hasRows_len {m : Nat → Option Blk} : ∀ {ss : List Nat} {bs : List (Nat × List (List AV))}, hasRows m ss bs → ss.length = bs.length
  | [], [], _ => rfl
  | _ :: _, _ :: _, h => by simp [hasRows_len h.2]
theorem hasRows_at {m : Nat → Option Blk} : ∀ {ss : List Nat} {bs : List (Nat × List (List AV))}, hasRows m ss bs → ∀ {i s : Nat} {b : Nat × List (List AV)}, ss[i]? = some s → bs[i]? = some b → m s = some (.row true b.1 b.2)
  | [], [], _, i, s, b, h, _ => by simp at h
  | _ :: _, _ :: _, h, 0, s, b, h1, h2 => by simp at h1 h2; subst h1 h2; exact h.1
  | _ :: _, _ :: _, h, i + 1, s, b, h1, h2 => hasRows_at h.2 (by simpa using h1) (by simpa using h2)

def flatRow (es : List (List AV)) : Bool := es.all fun e => e.all fun x => match x with
  | .lit _ => true
  | _ => false
def flatRows (bs : List (Nat × List (List AV))) : Bool := bs.all fun b => flatRow b.2
theorem flatRows_at {bs : List (Nat × List (List AV))} (h : flatRows bs = true) {i : Nat} {b : Nat × List (List AV)} (hb : bs[i]? = some b) : flatRow b.2 = true := by
  simp only [flatRows, List.all_eq_true] at h
  exact h b (List.mem_of_getElem? hb)
theorem RowB.flat {c : Ctx} {w : World} {p : Bool} {b cap sz : Nat} {es : List (List AV)} {F : Nat → Prop} (h : RowB c w p b cap sz es F) (hf : flatRow es = true) : ∀ k, F k → k = b := by
  obtain ⟨C, e, fz, G, a1, a2, a3, a4, a5, a6, a7, a8, a9, a10, a11, a12⟩ := h
  intro k hk
  rcases (a12 k).1 hk with h1 | ⟨i, j, hg⟩
  · exact h1
  · have hs := a11 i j k hg
    obtain ⟨x, hx⟩ := Option.isSome_iff_exists.1 hs
    have hx2 := hx
    unfold elt at hx2
    cases he : es[i]? with
    | none => simp [he] at hx2
    | some e' =>
      simp only [he, Option.bind_some] at hx2
      obtain ⟨hi, rfl⟩ := List.getElem?_eq_some_iff.1 he
      have hl := a6 _ (List.getElem_mem hi)
      obtain ⟨hj, hxe⟩ := List.getElem?_eq_some_iff.1 hx2
      have hlt : i * sz + j < C.size := by
        rw [a5]
        have h1 : i * sz + sz ≤ cap * sz := by rw [← Nat.succ_mul]; exact Nat.mul_le_mul_right _ (by omega)
        omega
      have hlit : ∃ v, x = .lit v := by
        simp only [flatRow, List.all_eq_true] at hf
        have := hf _ (List.getElem_mem hi) x (by rw [← hxe]; exact List.getElem_mem hj)
        cases x <;> first | exact ⟨_, rfl⟩ | cases this
      obtain ⟨v, rfl⟩ := hlit
      rcases a8 i j _ _ hx (Array.getElem?_eq_getElem hlt) with h2 | ⟨_, h2, _⟩
      · cases h2 with
        | plain _ _ h3 => exact absurd hg (h3 k)
      · exact absurd hg (h2 k)
def mutOk : Value → Bool
  | .tuple vs => vs.size == 0
  | r => r.oneCell'
def mutT : Value → T
  | .tuple _ => .tup []
  | r => .one (.lit r)
theorem mutT_ok {c : Ctx} {w : World} {r : Value} (h : mutOk r = true) : RT c w (mutT r) r := by
  cases r <;> first | exact ⟨.lit _, h⟩ | skip
  rename_i vs
  have e : vs = #[] := by simpa [mutOk] using h
  subst e
  trivial
def opMark (P : Program) (f : FuncId) (args : List Operand) (σ : AS) (K : AS → T → Prop) : Prop :=
  ∃ tl ml, Weak σ (AS.of tl ml) ∧ ∃ us bs bs' r ss, MutF P f us bs bs' r ∧ RenTs ss us (args.map (AS.of tl ml).get) ∧ hasRows (lkM ml) ss bs ∧ ss.Nodup ∧
    ((tl.all fun p => p.2.safe) || flatRows bs) = true ∧ ((ml.all fun p => p.2.safe) || flatRows bs) = true ∧ mutOk r = true ∧ K (AS.of tl (ml.map (updM ss bs'))) (mutT r)

theorem lkM_mem : ∀ {ml : List (Nat × Blk)} {s : Nat} {k : Blk}, lkM ml s = some k → (s, k) ∈ ml
  | [], s, k, h => by simp [lkM] at h
  | (s', k') :: ml, s, k, h => by
    simp only [lkM] at h
    split at h
    · rename_i e; subst e; cases h; simp
    · exact List.mem_cons_of_mem _ (lkM_mem h)
theorem lkT_safe : ∀ {tl : List (Nat × T)}, (tl.all fun p => p.2.safe) = true → ∀ t, (lkT tl t).safe = true
  | [], _, t => rfl
  | (k, v) :: l, h, t => by
    simp only [List.all_cons, Bool.and_eq_true] at h
    simp only [lkT]
    split
    · exact h.1
    · exact lkT_safe h.2 t
theorem updM_fst : ∀ (ss : List Nat) (bs : List (Nat × List (List AV))) (p : Nat × Blk), (updM ss bs p).1 = p.1
  | [], _, _ => rfl
  | _ :: _, [], _ => rfl
  | s :: ss, b :: bs, p => by
    simp only [updM]
    split
    · rename_i e; exact e.symm
    · exact updM_fst ss bs p
theorem updM_old : ∀ {ss : List Nat} {bs : List (Nat × List (List AV))} {p : Nat × Blk}, p.1 ∉ ss → updM ss bs p = p
  | [], _, _, _ => rfl
  | _ :: _, [], _, _ => rfl
  | s :: ss, b :: bs, p, h => by
    simp only [List.mem_cons, not_or] at h
    simp only [updM, if_neg h.1]
    exact updM_old h.2
theorem updM_new : ∀ {ss : List Nat} {bs : List (Nat × List (List AV))} {p : Nat × Blk} {i : Nat} {b : Nat × List (List AV)}, ss.Nodup → ss[i]? = some p.1 → bs[i]? = some b → updM ss bs p = (p.1, .row true b.1 b.2)
  | [], _, _, i, _, _, h, _ => by simp at h
  | _ :: _, [], _, i, _, _, _, h => by simp at h
  | s :: ss, b' :: bs, p, 0, b, hn, h1, h2 => by
    simp at h1 h2
    subst h1 h2
    simp [updM]
  | s :: ss, b' :: bs, p, i + 1, b, hn, h1, h2 => by
    simp only [List.nodup_cons] at hn
    simp at h1 h2
    have hne : p.1 ≠ s := fun e => hn.1 (by rw [← e]; exact List.mem_of_getElem? h1)
    simp only [updM, if_neg hne]
    exact updM_new hn.2 h1 h2
theorem lkM_upd {ss : List Nat} {bs : List (Nat × List (List AV))} : ∀ {ml : List (Nat × Blk)} {s : Nat}, lkM (ml.map (updM ss bs)) s = (lkM ml s).map fun k => (updM ss bs (s, k)).2
  | [], _ => rfl
  | (s', k') :: ml, s => by
    simp only [List.map_cons]
    have h1 := updM_fst ss bs (s', k')
    generalize hq : updM ss bs (s', k') = q at h1
    obtain ⟨q1, q2⟩ := q
    simp only at h1
    subst h1
    simp only [lkM]
    split
    · rename_i e; subst e; simp [hq]
    · exact lkM_upd

section
variable {P : Program} {w0 w : World} {L : Nat → Prop} {n : Nat} {σ : AS} {a : Act} {c : Ctx} {F : Nat → Nat → Prop}

def CallOk (P : Program) (f : FuncId) (args : List Operand) (σ σ' : AS) (t : T) : Prop :=
  Callable P f ∧ ∀ (w0 : World) (L : Nat → Prop) (n : Nat) (a : Act) (w : World), Holds w0 L n σ a w →
    Calls P f (args.map a.eval).toArray w fun e w' => ∃ V c' F', e = .returned V ∧ H w0 L n σ' a w' c' F' ∧ RT c' w' t V
def opOwn (P : Program) (f : FuncId) (args : List Operand) (σ : AS) (K : AS → T → Prop) : Prop := ∃ σ' t, CallOk P f args σ σ' t ∧ K σ' t
theorem opOwn_ok (h0 : Holds w0 L n σ a w) {f : FuncId} {args : List Operand} {K : AS → T → Prop} (hk : opOwn P f args σ K) :
    ∃ σ' v, K σ' v ∧ Callable P f ∧ Calls P f (args.map a.eval).toArray w fun e w' => ∃ V c' F', e = .returned V ∧ H w0 L n σ' a w' c' F' ∧ RT c' w' v V := by
  obtain ⟨σ', t, ⟨hc, hf⟩, hk⟩ := hk
  exact ⟨σ', t, hk, hc, hf _ _ _ _ _ h0⟩

def CallR (P : Program) (f : FuncId) (args : List Operand) (σ : AS) (R : AS → T → Prop) : Prop :=
  Callable P f ∧ ∀ (w0 : World) (L : Nat → Prop) (n : Nat) (a : Act) (w : World), Holds w0 L n σ a w →
    Calls P f (args.map a.eval).toArray w fun e w' => ∃ σ' t V c' F', R σ' t ∧ e = .returned V ∧ H w0 L n σ' a w' c' F' ∧ RT c' w' t V
def opFam (P : Program) (f : FuncId) (args : List Operand) (σ : AS) (K : AS → T → Prop) : Prop := ∃ R, CallR P f args σ R ∧ ∀ σ' t, R σ' t → K σ' t
theorem BlkOk.rowAt {F : Nat → Prop} {s sz : Nat} {es : List (List AV)} (h : BlkOk c w F s (.row true sz es)) (hn : nbRow es = true) : ∃ i, c.at_ s = some i ∧ RowAt w i sz es F := by
  rcases h with ⟨h1, h2, h3⟩ | ⟨b, cap, h1, h2⟩
  · exact ⟨_, h1, .inl ⟨rfl, h2, h3⟩⟩
  · exact ⟨_, h1, .inr ⟨b, cap, rfl, h2.nb hn⟩⟩
theorem RowAt.blk {F : Nat → Prop} {s sz : Nat} {es : List (List AV)} {i : SI} (h : RowAt w i sz es F) (hn : nbRow es = true) (hi : c.at_ s = some i) : BlkOk c w F s (.row true sz es) := by
  rcases h with ⟨rfl, h2, h3⟩ | ⟨b, cap, rfl, h2⟩
  · exact .inl ⟨hi, h2, h3⟩
  · exact .inr ⟨b, cap, hi, h2.nb hn⟩

theorem nbRows_at {bs : List (Nat × List (List AV))} (h : nbRows bs = true) {i : Nat} {b : Nat × List (List AV)} (hb : bs[i]? = some b) : nbRow b.2 = true := by
  simp only [nbRows, List.all_eq_true] at h
  exact h b (List.mem_of_getElem? hb)

theorem opMark_ok (h0 : Holds w0 L n σ a w) {f : FuncId} {args : List Operand} {K : AS → T → Prop} (hk : opMark P f args σ K) :
    ∃ σ' v, K σ' v ∧ Callable P f ∧ Calls P f (args.map a.eval).toArray w fun e w' => ∃ V c' F', e = .returned V ∧ H w0 L n σ' a w' c' F' ∧ RT c' w' v V := by
  obtain ⟨tl, ml, hweak, us, bs, bs', r, ss, hf, hren, hrows, hnd, hst, hsm, hr, hk⟩ := hk
  obtain ⟨c, F, h⟩ := hweak _ _ _ _ _ h0
  refine ⟨_, _, hk, hf.1, ?_⟩
  obtain ⟨_, hnb, hnb', hbl, hcall⟩ := hf
  have hlen := hasRows_len hrows
  have hat : ∀ {i s : Nat} {b : Nat × List (List AV)}, ss[i]? = some s → bs[i]? = some b → ∃ j, c.at_ s = some j ∧ ctxR c ss i = j ∧ RowAt w j b.1 b.2 (F s) := fun {i s b} hs hb => by
    obtain ⟨j, h1, h2⟩ := (h.mem s _ (hasRows_at hrows hs hb)).rowAt (nbRows_at hnb hb)
    exact ⟨j, h1, by simp [ctxR, hs, h1], h2⟩
  have hargs : RTL c w (args.map (AS.of tl ml).get) (args.map a.eval) := by
    have : ∀ l : List Operand, RTL c w (l.map (AS.of tl ml).get) (l.map a.eval) := by
      intro l
      induction l with
      | nil => trivial
      | cons x l ih => exact ⟨h.get x, ih⟩
    exact this args
  have hFs : ∀ i k : Nat, (∃ s, ss[i]? = some s ∧ F s k) → i < bs.length ∧ k < w.heap.size := fun i k ⟨s, hs, hk⟩ => ⟨by rw [← hlen]; exact (List.getElem?_eq_some_iff.1 hs).1, (h.new s k hk).2⟩
  refine (hcall w (ctxR c ss) (fun i k => ∃ s, ss[i]? = some s ∧ F s k) (args.map a.eval).toArray (by rw [← hlen]; simpa using hren.ok hargs) (h.gl.mono (fun b hb => ⟨Nat.lt_of_lt_of_le hb.1 h.keeps.size, fun ⟨i, s, _, hF⟩ => h.old_not hb hF⟩) h.keeps.size fun b hb => h.keeps.block b hb.1 hb.2) (fun i sz es hb => ?_) (fun i j k ⟨s, hs, h1⟩ ⟨s', hs', h2⟩ => ?_) hFs).mono ?_
  · have hi : i < ss.length := by rw [hlen]; exact (List.getElem?_eq_some_iff.1 hb).1
    have hs : ss[i]? = some ss[i] := by simp [hi]
    obtain ⟨j, h1, h2, h3⟩ := hat hs hb
    rw [h2, show (fun k => ∃ s, ss[i]? = some s ∧ F s k) = F ss[i] from funext fun k => propext (by simp [hs])]
    exact h3
  · have := h.disj _ _ _ h1 h2
    subst this
    obtain ⟨hi, e1⟩ := List.getElem?_eq_some_iff.1 hs
    obtain ⟨hj, e2⟩ := List.getElem?_eq_some_iff.1 hs'
    exact (List.getElem_inj hnd).1 (e1.trans e2.symm)
  rintro e w' ⟨F', rfl, hB', hd', hF', hkeep⟩
  let c2 : Ctx := ⟨c.at_, fun k => (c.I k ∧ ¬ ∃ i s : Nat, ss[i]? = some s ∧ F s k) ∨ ∃ i s : Nat, ss[i]? = some s ∧ F' i k ∧ ¬ c.top s k⟩
  let F2 : Nat → Nat → Prop := fun s k => (s ∉ ss ∧ F s k) ∨ ∃ i : Nat, ss[i]? = some s ∧ F' i k
  have hblk : ∀ k, k < w.heap.size → (∀ i s : Nat, ss[i]? = some s → ¬ F s k) → w'.heap[k]? = w.heap[k]? := fun k hk hn => hkeep.block k hk fun ⟨i, s, hs, hF⟩ => hn i s hs hF
  have hmemss : ∀ {s : Nat}, s ∈ ss → ∃ i : Nat, ss[i]? = some s := fun {s} hs => List.getElem?_of_mem hs
  have hother : ∀ s k, s ∉ ss → F s k → w'.heap[k]? = w.heap[k]? := fun s k hs hF => hblk k (h.new s k hF).2 fun i s' hs' hF' => by
    have := h.disj _ _ _ hF hF'
    subst this
    exact hs (List.mem_of_getElem? hs')
  have hF2o : ∀ s, s ∉ ss → F2 s = F s := fun s hs => funext fun k => propext ⟨fun h => h.elim (·.2) fun ⟨i, hi, _⟩ => absurd (List.mem_of_getElem? hi) hs, fun h => .inl ⟨hs, h⟩⟩
  have hidx : ∀ {i j s : Nat}, ss[i]? = some s → ss[j]? = some s → i = j := fun {i j s} h1 h2 => by
    obtain ⟨hi, e1⟩ := List.getElem?_eq_some_iff.1 h1
    obtain ⟨hj, e2⟩ := List.getElem?_eq_some_iff.1 h2
    exact (List.getElem_inj hnd).1 (e1.trans e2.symm)
  have hF2n : ∀ {i s : Nat}, ss[i]? = some s → F2 s = F' i := fun {i s} hs => funext fun k => propext ⟨fun h => h.elim (fun h => absurd (List.mem_of_getElem? hs) h.1) fun ⟨j, hj, h⟩ => by rw [hidx hs hj]; exact h, fun h => .inr ⟨i, hs, h⟩⟩
  have hF'k : ∀ i k, F' i k → (∃ j s : Nat, ss[j]? = some s ∧ F s k) ∨ w.heap.size ≤ k := fun i k hk => (hF' i k hk).2.1.imp (fun ⟨j, s, hs, hF⟩ => ⟨j, s, hs, hF⟩) id
  have hcross : ∀ s i k, s ∉ ss → F s k → F' i k → False := fun s i k hs hF hk => by
    rcases hF'k i k hk with ⟨j, s', hs', hF'⟩ | hge
    · have := h.disj _ _ _ hF hF'
      subst this
      exact hs (List.mem_of_getElem? hs')
    · have := (h.new s k hF).2; omega
  have hImono : flatRows bs = true → (∀ k, c.I k → c2.I k) ∧ ∀ k, c.I k → w'.heap[k]? = w.heap[k]? := fun hfl => by
    have hno : ∀ k, c.I k → ∀ i s : Nat, ss[i]? = some s → ¬ F s k := fun k hk i s hs hF => by
      have hil : i < bs.length := by rw [← hlen]; exact (List.getElem?_eq_some_iff.1 hs).1
      have hb : bs[i]? = some bs[i] := by simp [hil]
      obtain ⟨j, h1, h2, h3⟩ := hat hs hb
      rcases h3 with ⟨_, _, h4⟩ | ⟨b, cap, rfl, h4⟩
      · exact h4 k hF
      · have := h4.flat (flatRows_at hfl hb) k hF
        subst this
        exact ((h.inn s k hF).1 hk) (.inr ⟨_, _, h1⟩)
    exact ⟨fun k hk => .inl ⟨hk, fun ⟨i, s, hs, hF⟩ => hno k hk i s hs hF⟩, fun k hk => hblk k (h.imm k hk) (hno k hk)⟩
  have hH : H w0 L n (AS.of tl (ml.map (updM ss bs'))) a w' c2 F2 := by
    refine ⟨⟨hkeep.os.trans h.keeps.os, hkeep.tape.trans h.keeps.tape, hkeep.output.trans h.keeps.output, Nat.le_trans h.keeps.size hkeep.size, fun k hk hl => ?_, fun q => Nat.le_trans (h.keeps.dr q) (hkeep.dr q)⟩, h.size, h.defers, fun t => ?_, fun s k hk => ?_, fun s hs => ?_, fun s s' k h1 h2 => ?_, fun s k hk => ?_, fun k hk => ?_, fun s k hk => ?_, fun s v x hk => ?_, h.gl⟩
    · rw [hblk k (Nat.lt_of_lt_of_le hk h.keeps.size) fun i s hs hF => by rcases (h.new s k hF).1 with h1 | h1; omega; exact hl h1]
      exact h.keeps.block k hk hl
    · rcases Bool.or_eq_true_iff.1 hst with hst | hfl
      · exact RT.safe (c := c) (c' := c2) (w := w) (w' := w') rfl (h.tm t) (lkT_safe hst t)
      · exact RT.mono (c := c) (c' := c2) (w := w) (w' := w') (fun _ _ h => h) (hImono hfl).1 (hImono hfl).2 (h.tm t)
    · simp only [AS.of, lkM_upd] at hk
      cases hq : lkM ml s with
      | none => simp [hq] at hk
      | some q =>
        simp only [hq, Option.map_some, Option.some.injEq] at hk
        have hB := h.mem s q hq
        by_cases hs : s ∈ ss
        · obtain ⟨i, hi⟩ := hmemss hs
          have hil : i < bs.length := by rw [← hlen]; exact (List.getElem?_eq_some_iff.1 hi).1
          have hb : bs[i]? = some bs[i] := by simp [hil]
          have hb' : bs'[i]? = some bs'[i] := by simp [hbl, hil]
          rw [updM_new (p := (s, q)) hnd hi hb'] at hk
          subst hk
          obtain ⟨j, h1, h2, h3⟩ := hat hi hb
          rw [hF2n hi]
          have := hB' i _ _ hb'
          rw [h2] at this
          exact this.blk (nbRows_at hnb' hb') h1
        · rw [updM_old (p := (s, q)) hs] at hk
          subst hk
          rw [hF2o s hs]
          rcases Bool.or_eq_true_iff.1 hsm with hsm | hfl
          case inr => exact BlkOk.mono (c := c) (c' := c2) (w := w) (w' := w') (fun _ _ h => h) (hImono hfl).1 (hImono hfl).2 (fun k hk => hother s k hs hk) hB
          have hsafe : q.safe = true := List.all_eq_true.1 hsm _ (lkM_mem hq)
          cases q with
          | var xs =>
            obtain ⟨b, C, e, fz, a1, a2, a3, a4, a5⟩ := hB
            exact ⟨b, C, e, fz, a1, (hother s b hs ((a5 b).2 rfl)).trans a2, a3, RL.safe (c := c) (c' := c2) (w := w) (w' := w') rfl a4 hsafe, a5⟩
          | row p sz es =>
            rcases hB with ⟨h1, h2, h3⟩ | ⟨b, cap, h1, h2⟩
            · exact .inl ⟨h1, h2, h3⟩
            · exact .inr ⟨b, cap, h1, RowB.safe (c := c) (c' := c2) rfl h2 hsafe fun k hk => hother s k hs hk⟩
          | par v x =>
            exact hB
          | pin s' i => exact hB
          | mapb b es =>
            obtain ⟨a1, ⟨ents, ck, a2, a3⟩, a5⟩ := hB
            exact ⟨a1, ⟨ents, ck, (hother s b hs ((a5 b).2 rfl)).trans a2, a3⟩, a5⟩
    · simp only [AS.of, lkM_upd, Option.map_eq_none_iff] at hs
      have hd := h.dom s hs
      refine ⟨hd.1, fun k hk => ?_⟩
      rcases hk with ⟨_, hk⟩ | ⟨i, hi, _⟩
      · exact hd.2 k hk
      · have hil : i < bs.length := by rw [← hlen]; exact (List.getElem?_eq_some_iff.1 hi).1
        have := hasRows_at hrows hi (b := bs[i]) (by simp [hil])
        rw [hs] at this; cases this
    · rcases h1 with ⟨h1, h1'⟩ | ⟨i, hi, h1⟩ <;> rcases h2 with ⟨h2, h2'⟩ | ⟨j, hj, h2⟩
      · exact h.disj _ _ _ h1' h2'
      · exact (hcross _ _ _ h1 h1' h2).elim
      · exact (hcross _ _ _ h2 h2' h1).elim
      · have := hd' _ _ _ h1 h2
        subst this
        rw [hi] at hj; cases hj; rfl
    · rcases hk with ⟨_, hk⟩ | ⟨i, hi, hk⟩
      · exact ⟨(h.new s k hk).1, Nat.lt_of_lt_of_le (h.new s k hk).2 hkeep.size⟩
      · refine ⟨?_, (hF' i k hk).2.2⟩
        rcases hF'k i k hk with ⟨j, s', _, hF⟩ | hge
        · exact (h.new s' k hF).1
        · exact .inl (Nat.le_trans h.keeps.size hge)
    · rcases hk with ⟨hk, _⟩ | ⟨i, s, _, hk, _⟩
      · exact Nat.lt_of_lt_of_le (h.imm k hk) hkeep.size
      · exact (hF' i k hk).2.2
    · rcases hk with ⟨hs, hk⟩ | ⟨i, hi, hk⟩
      · show c2.I k ↔ ¬ c.top s k
        rw [← h.inn s k hk]
        constructor
        · rintro (⟨h1, _⟩ | ⟨i, s', hs', h1, _⟩)
          · exact h1
          · exact (hcross _ _ _ hs hk h1).elim
        · exact fun h1 => .inl ⟨h1, fun ⟨i, s', hs', hF⟩ => by have := h.disj _ _ _ hk hF; subst this; exact hs (List.mem_of_getElem? hs')⟩
      · show c2.I k ↔ ¬ c.top s k
        constructor
        · rintro (⟨h1, h2⟩ | ⟨j, s', hs', h1, h2⟩)
          · rcases hF'k i k hk with ⟨j, s', hs', hF⟩ | hge
            · exact absurd ⟨j, s', hs', hF⟩ h2
            · have := h.imm k h1; omega
          · have := hd' _ _ _ hk h1
            subst this
            rw [hi] at hs'; cases hs'; exact h2
        · exact fun h1 => .inr ⟨i, s, hi, hk, h1⟩
    · simp only [AS.of, lkM_upd] at hk
      cases hq : lkM ml s with
      | none => simp [hq] at hk
      | some q =>
        simp only [hq, Option.map_some, Option.some.injEq] at hk
        by_cases hs : s ∈ ss
        · obtain ⟨i, hi⟩ := hmemss hs
          have hil : i < bs.length := by rw [← hlen]; exact (List.getElem?_eq_some_iff.1 hi).1
          have hb' : bs'[i]? = some bs'[i] := by simp [hbl, hil]
          rw [updM_new (p := (s, q)) hnd hi hb'] at hk
          cases hk
        · rw [updM_old (p := (s, q)) hs] at hk
          subst hk
          obtain ⟨q1, q2, q3⟩ := h.par s v x hq
          exact ⟨q1, q2, fun k hk => .inl ⟨q3 k hk, fun ⟨i, s, _, hF⟩ => h.old_not hk hF⟩⟩
  exact ⟨r, c2, F2, rfl, hH, mutT_ok hr⟩
end
end Go.Proofs.YtjajnladldchcaaDoor
namespace Go.Proofs.YtjajnladldchcaaDoor
open Go.RowKit
set_option linter.unusedSimpArgs false
set_option linter.unusedVariables false

def isEff (E : Tab) : Op → Bool
  | .store _ _ _ => true
  | .makeMap _ none => true
  | .mapUpdate _ _ _ _ => true
  | .call c => match c.callee with
    | .builtin .append => true
    | .builtin .copy => true
    | .value (.func f) => E.wr.contains f
    | _ => false
  | _ => false

def IsLit : T → Value → Prop
  | .one (.lit v), u => v = u
  | .agg xs, u => ∃ X : List Value, xs = X.map .lit ∧ u = .agg X.toArray
  | _, _ => False
def opMapSet (P : Program) (σ : AS) (t : TypeId) (x k v : T) (K : AS → T → Prop) : Prop :=
  match x, k with
  | .one (.lit (.map (some b))), .one (.lit (.string s)) => ∃ kt vt p es u, P.underlying t = some (.map kt vt) ∧ P.underlying kt = some .string ∧ σ.mem p = some (.mapb b es) ∧ IsLit v u ∧
      K (σ.set p (.mapb b (upM es s u))) (.tup [])
  | _, _ => False
def CopyOk (P : Program) (t t' : TypeId) (x y : Operand) (σ σ' : AS) (u : T) : Prop :=
  ∀ (w0 : World) (L : Nat → Prop) (n : Nat) (a : Act) (w : World) (ty : TypeId), Holds w0 L n σ a w →
    ∃ V w', (Builtin.copy_ #[t, t'] ty #[a.eval x, a.eval y]).run P w = .ok V w' ∧ ∃ c' F', H w0 L n σ' a w' c' F' ∧ RT c' w' u V
def ope (P : Program) (E : Tab) (site : Nat) (op : Op) (σ : AS) (K : AS → T → Prop) : Prop :=
  match op with
  | .store t x y => opStore E σ t (σ.get x) (σ.get y) fun σ' => K σ' (.tup [])
  | .makeMap _ none => σ.mem site = none ∧ ∀ b, K (σ.add site (.mapb b [])) (.one (.lit (.map (some b))))
  | .mapUpdate t x k v => opMapSet P σ t (σ.get x) (σ.get k) (σ.get v) K
  | .call c => match c.callee, c.args.toList, c.argTypes.toList with
    | .builtin .append, [x, y], [t, t'] => if t = t' then opAppend E σ site t (σ.get x) (σ.get y) K else False
    | .value (.func f), args, _ => match E.own.contains f with
      | true => opOwn P f args σ K
      | false => match E.own.contains (f + 1000000) with
        | true => opFam P f args σ K
        | false => opMark P f args σ K
    | .builtin .copy, [x, y], [t, t'] => ∃ σ' u, CopyOk P t t' x y σ σ' u ∧ K σ' u
    | _, _, _ => False
  | _ => False

def vcNews (m : Nat → Option Blk) : News → Prop → Prop
  | [], K => K
  | (s, b) :: l, K => match m s with
    | none => (match !b.isPar && l.all fun y => y.1 != s with
      | true => vcNews m l K
      | false => False)
    | some _ => False

theorem vcNews_ok {m : Nat → Option Blk} {K : Prop} : ∀ {l : News}, vcNews m l K → Fresh m l ∧ (l.map (·.1)).Nodup ∧ K ∧ ∀ x ∈ l, x.2.isPar = false
  | [], h => ⟨(fun x hx => (by cases hx)), List.nodup_nil, h, (fun x hx => (by cases hx))⟩
  | (s, k) :: l, h => by
    simp only [vcNews] at h
    split at h
    · rename_i hs
      split at h
      · rename_i ha
        obtain ⟨h1, h2, h3, h4⟩ := vcNews_ok h
        simp only [Bool.and_eq_true, Bool.not_eq_true'] at ha
        obtain ⟨hp, ha⟩ := ha
        refine ⟨fun x hx => ?_, ?_, h3, fun x hx => ?_⟩
        · cases hx with
          | head => exact hs
          | tail _ hx => exact h1 x hx
        · simp only [List.map_cons, List.nodup_cons, List.mem_map, not_exists, not_and]
          refine ⟨fun y hy e => ?_, h2⟩
          have := List.all_eq_true.1 ha y hy
          simp [e] at this
        · cases hx with
          | head => exact hp
          | tail _ hx => exact h4 x hx
      · exact h.elim
    · exact h.elim

def vcOp (P : Program) (E : Tab) (o : Oper) (σ : AS) (K : AS → Prop) : Prop :=
  match isEff E o.op with
  | true => ope P E (siteOf o) o.op σ fun σ' v => K (σ'.put o.dst v)
  | false => opn P E (siteOf o) o.op σ.get σ.mem fun v news => vcNews σ.mem news (K ((σ.adds news).put o.dst v))

def gdst (ops : Array Oper) (j : Nat) : Option Nat := (ops[j]?).bind (·.dst)

def vcOps (P : Program) (E : Tab) (ops : Array Oper) (l : List Oper) : AS → (AS → Prop) → Prop :=
  List.rec (motive := fun _ => AS → (AS → Prop) → Prop) (fun σ Q => Q σ) (fun o _ ih σ Q => match o.guard with
    | none => vcOp P E o σ fun σ' => ih σ' Q
    | some (j, want) => match isEff E o.op with
      | true => False
      | false => match gdst ops j with
        | some t => match σ.tm t with
          | .one (.lit (.bool b)) => match b with
            | true => (match want with
              | true => vcOp P E o (σ.put (some t) (.one (.lit (.bool true)))) fun σ' => ih σ' Q
              | false => ih ((σ.put (some t) (.one (.lit (.bool true)))).put o.dst (.tup [])) Q)
            | false => (match want with
              | true => ih ((σ.put (some t) (.one (.lit (.bool false)))).put o.dst (.tup [])) Q
              | false => vcOp P E o (σ.put (some t) (.one (.lit (.bool false)))) fun σ' => ih σ' Q)
          | .tup [] => ih (σ.put o.dst (.tup [])) Q
          | _ => False
        | none => False) l
theorem vcOps_cons {P : Program} {E : Tab} {ops : Array Oper} {o : Oper} {rest : List Oper} {σ : AS} {Q : AS → Prop} : vcOps P E ops (o :: rest) σ Q = (match o.guard with
    | none => vcOp P E o σ fun σ' => vcOps P E ops rest σ' Q
    | some (j, want) => match isEff E o.op with
      | true => False
      | false => match gdst ops j with
        | some t => match σ.tm t with
          | .one (.lit (.bool b)) => match b with
            | true => (match want with
              | true => vcOp P E o (σ.put (some t) (.one (.lit (.bool true)))) fun σ' => vcOps P E ops rest σ' Q
              | false => vcOps P E ops rest ((σ.put (some t) (.one (.lit (.bool true)))).put o.dst (.tup [])) Q)
            | false => (match want with
              | true => vcOps P E ops rest ((σ.put (some t) (.one (.lit (.bool false)))).put o.dst (.tup [])) Q
              | false => vcOp P E o (σ.put (some t) (.one (.lit (.bool false)))) fun σ' => vcOps P E ops rest σ' Q)
          | .tup [] => vcOps P E ops rest (σ.put o.dst (.tup [])) Q
          | _ => False
        | none => False) := rfl

section
variable {P : Program} {w0 w : World} {L : Nat → Prop} {n : Nat} {σ : AS} {a : Act} {c : Ctx} {F : Nat → Nat → Prop} {ops : Array Oper}

def wants (ops : Array Oper) (σ : AS) (o : Oper) : Prop :=
  match o.guard with
  | none => True
  | some (j, want) => ∃ t, gdst ops j = some t ∧ σ.tm t = .one (.lit (.bool want))
def skips (ops : Array Oper) (σ : AS) (o : Oper) : Prop :=
  match o.guard with
  | none => False
  | some (j, want) => ∃ t, gdst ops j = some t ∧ (σ.tm t = .one (.lit (.bool (!want))) ∨ σ.tm t = .tup [])

theorem getD_cases (a : Array Value) (t : Nat) : a[t]? = some (a.getD t undef) ∨ (a[t]? = none ∧ a.getD t undef = undef) := by
  cases h : a[t]? with
  | none => exact .inr ⟨rfl, by simp [Array.getD_eq_getD_getElem?, h]⟩
  | some v => exact .inl (by simp [Array.getD_eq_getD_getElem?, h])
theorem yielded_bool (h : H w0 L n σ a w c F) {j t : Nat} (ht : gdst ops j = some t) {b : Bool} (hb : σ.tm t = .one (.lit (.bool b))) : yielded ops a.tmps j = some b := by
  have := h.tm t
  rw [hb] at this
  have := one_lit this
  unfold gdst at ht
  simp only [yielded, ht, Option.bind_some]
  rcases getD_cases a.tmps t with h1 | ⟨_, h1⟩
  · rw [h1, this]
  · rw [h1] at this; cases this
theorem yielded_undef (h : H w0 L n σ a w c F) {j t : Nat} (ht : gdst ops j = some t) (hb : σ.tm t = .tup []) : yielded ops a.tmps j = none := by
  have := h.tm t
  rw [hb] at this
  unfold gdst at ht
  simp only [yielded, ht, Option.bind_some]
  rcases getD_cases a.tmps t with h1 | ⟨h1, _⟩
  · rw [h1]
    generalize a.tmps.getD t undef = v at this ⊢
    cases v <;> first | rfl | exact this.elim
  · rw [h1]

theorem wants_ok (h : H w0 L n σ a w c F) {o : Oper} (hw : wants ops σ o) : Region.wanted o (yielded ops a.tmps) = true := by
  unfold wants at hw
  unfold Region.wanted
  split at hw
  · rename_i hg; rw [hg]
  · rename_i j want hg
    obtain ⟨t, h1, h2⟩ := hw
    rw [hg]
    simp [yielded_bool h h1 h2]
theorem skips_ok (h : H w0 L n σ a w c F) {o : Oper} (hw : skips ops σ o) : Region.wanted o (yielded ops a.tmps) = false := by
  unfold skips at hw
  unfold Region.wanted
  split at hw
  · exact hw.elim
  · rename_i j want hg
    obtain ⟨t, h1, h2⟩ := hw
    rw [hg]
    rcases h2 with h2 | h2
    · simp [yielded_bool h h1 h2]
    · simp [yielded_undef h h1 h2]

abbrev Dec := Option (T × News)
def app (o : Oper) (d : Dec) (σ : AS) : AS :=
  match d with
  | some (v, news) => (σ.adds news).put o.dst v
  | none => σ.put o.dst (.tup [])
def VOk (P : Program) (E : Tab) (ops : Array Oper) (o : Oper) (d : Dec) (σ : AS) (m : Nat → Option Blk) : Prop :=
  match d with
  | some (v, news) => wants ops σ o ∧ opn P E (siteOf o) o.op σ.get m (fun v' n' => v' = v ∧ n' = news) ∧ Fresh σ.mem news ∧ ∀ x ∈ news, m x.1 = some x.2
  | none => skips ops σ o

def Tr (P : Program) (E : Tab) (ops : Array Oper) (Q : AS → Prop) : List Nat → AS → (Nat → Option Blk) → Prop
  | [], σ, _ => Q σ
  | i :: l, σ, m => ∃ o, ops[i]? = some o ∧ if isEff E o.op then o.guard = none ∧ m = σ.mem ∧ ope P E (siteOf o) o.op σ (fun σ' v => ∃ m', Le (σ'.put o.dst v).mem m' ∧ Tr P E ops Q l (σ'.put o.dst v) m')
    else ∃ d, VOk P E ops o d σ m ∧ Tr P E ops Q l (app o d σ) m

theorem opn'_up {m m' : Nat → Option Blk} (hm : ∀ s k, m s = some k → m' s = some k) {site : Nat} {op : Op} {g : Operand → T} {K : T → News → Prop} {E : Tab} (h : opn P E site op g m K) : opn P E site op g m' K := by
  unfold opn at h ⊢
  split at h <;> try exact h
  · -- load
    simp only [opLoad] at h ⊢
    split at h
    case h_2 => exact h
    split at h
    · split at h
      · rename_i hs; rw [hm _ _ hs]; exact h
      · exact h.elim
    · split at h
      · rename_i hs; rw [hm _ _ hs]; exact h
      · exact h.elim
    · exact h
    · exact h
    · exact h.elim
  · -- conversion
    simp only [opConv2] at h ⊢
    split at h <;> try exact h
    simp only [opToStr] at h ⊢
    split at h <;> try exact h
    split at h <;> try exact h
    split at h
    case isFalse => exact h.elim
    rename_i hc
    rw [if_pos hc]
    obtain ⟨p, es, l, h1, h2, h3⟩ := h
    refine ⟨p, es, l, ?_, h2, h3⟩
    unfold opSrc at h1 ⊢
    split at h1 <;> try exact h1
    split at h1
    · rename_i hs; rw [hm _ _ hs]; exact h1
    · exact h1.elim
  · -- slice
    simp only [opSlice] at h ⊢
    split at h
    case h_2 => exact h
    split at h
    · exact h
    · split at h
      case h_2 => exact h
      split at h
      · obtain ⟨h1, h2, h3, h4⟩ := h
        refine ⟨h1, h2, h3, ?_⟩
        split at h4
        · rename_i hs; rw [hm _ _ hs]; exact h4
        · exact h4.elim
      · exact h
      · exact h
      · exact h.elim
    · exact h.elim
  · -- indexAddr
    simp only [opIndexAddr] at h ⊢
    split at h
    case h_2 => exact h
    split at h
    · obtain ⟨i, h1, h2, h4⟩ := h
      refine ⟨i, h1, h2, ?_⟩
      split at h4
      · rename_i hs; rw [hm _ _ hs]; exact h4
      · exact h4.elim
    · exact h
    · obtain ⟨s, o, es, h1, h2⟩ := h
      exact ⟨s, o, es, hm _ _ h1, h2⟩
    · exact h.elim
  · -- lookup
    unfold opLookup at h ⊢
    split at h
    case h_2 => exact h.elim
    obtain ⟨kt, vt, p, es, z, v, h1, h2, h3, h4⟩ := h
    exact ⟨kt, vt, p, es, z, v, h1, h2, hm _ _ h3, h4⟩
  · -- call
    split at h <;> try exact h
    unfold opCall at h ⊢
    split at h
    · obtain ⟨us, r, h1, h2, h3⟩ := h
      exact ⟨us, r, h1, h2.up hm, h3⟩
    · exact h.elim

theorem opBin_val {E : Tab} {K : T → News → Prop} {op : BinOp} {t : TypeId} {x y : T} (h : opBin E K op t x y) : ∃ v news, K v news ∧ opBin E (fun v' n' => v' = v ∧ n' = news) op t x y := by
  simp only [opBin] at h ⊢
  split at h
  · split at h
    · obtain ⟨h1, r, h2, h3⟩ := h; exact ⟨_, _, h3, h1, r, h2, rfl, rfl⟩
    · obtain ⟨h1, r, h2, h3⟩ := h; exact ⟨_, _, h3, h1, r, h2, rfl, rfl⟩
    · split at h
      case isFalse => exact h.elim
      rename_i hk
      subst hk
      simp only [if_true]
      split at h
      all_goals first
        | exact h.elim
        | exact ⟨_, _, h, rfl, rfl⟩
        | (obtain ⟨h1, r, h2, h3⟩ := h; exact ⟨_, _, h3, h1, r, h2, rfl, rfl⟩)
        | (obtain ⟨r, h2, h3⟩ := h; exact ⟨_, _, h3, r, h2, rfl, rfl⟩)
  · split at h <;> first
      | exact h.elim
      | exact ⟨_, _, h, rfl, rfl⟩
      | exact ⟨_, _, h.2, h.1, rfl, rfl⟩
  · split at h <;> first | exact h.elim | exact ⟨_, _, h, rfl, rfl⟩
  · split at h <;> first | exact h.elim | exact ⟨_, _, h, rfl, rfl⟩
  · split at h
    · split at h <;> first | exact h.elim | exact ⟨_, _, h, rfl, rfl⟩
    · exact h.elim
  · exact h.elim
theorem opn'_val {m : Nat → Option Blk} {site : Nat} {op : Op} {g : Operand → T} {K : T → News → Prop} {E : Tab} (h : opn P E site op g m K) : ∃ v news, K v news ∧ opn P E site op g m (fun v' n' => v' = v ∧ n' = news) := by
  unfold opn at h ⊢
  split at h
  · exact ⟨_, _, h, rfl, rfl⟩
  · exact ⟨_, _, h, rfl, rfl⟩
  · simp only [opPick] at h ⊢
    split at h
    · rename_i cb _
      cases cb
      · exact ⟨_, _, h, rfl, rfl⟩
      · exact ⟨_, _, h, rfl, rfl⟩
    · exact h.elim
  · simp only [opAlloc] at h ⊢
    split at h
    · exact ⟨_, _, h, rfl, rfl⟩
    · exact h.elim
  · simp only [opBox] at h ⊢
    split at h
    · exact ⟨_, _, h, rfl, rfl⟩
    · exact h.elim
  · simp only [opBuild] at h ⊢
    split at h
    · split at h
      · exact ⟨_, _, h, rfl, rfl⟩
      · exact h.elim
    · split at h
      · split at h
        · exact ⟨_, _, h, rfl, rfl⟩
        · exact h.elim
      · exact h.elim
    · exact h.elim
  · simp only [opBuildSlice] at h ⊢
    split at h
    · split at h
      · split at h
        case isFalse => exact h.elim
        rename_i hc
        split at h
        · exact ⟨_, _, h, by rw [if_pos hc]; exact ⟨rfl, rfl⟩⟩
        · exact h.elim
      · exact h.elim
    · exact h.elim
  · simp only [opLoad] at h ⊢
    split at h
    · split at h
      · split at h
        · split at h
          case isFalse => exact h.elim
          rename_i hc
          exact ⟨_, _, h, by rw [if_pos hc]; exact ⟨rfl, rfl⟩⟩
        · exact h.elim
      · split at h
        · obtain ⟨e, h1, h3⟩ := h
          split at h3
          case isFalse => exact h3.elim
          rename_i hc
          exact ⟨_, _, h3, e, h1, by rw [if_pos hc]; exact ⟨rfl, rfl⟩⟩
        · exact h.elim
      · split at h
        case isFalse => exact h.elim
        rename_i hc
        exact ⟨_, _, h, by rw [if_pos hc]; exact ⟨rfl, rfl⟩⟩
      · split at h
        case h_2 => exact h.elim
        split at h
        case isFalse => exact h.elim
        rename_i hc
        exact ⟨_, _, h, by rw [if_pos hc]; exact ⟨rfl, rfl⟩⟩
      · exact h.elim
    · exact h.elim
  · simp only [opNilCheck] at h ⊢
    split at h <;> first | exact h.elim | exact ⟨_, _, h, rfl, rfl⟩
  · split at h
    · rename_i ex ey
      obtain ⟨X, Y, b, h1, h2, h3, h4, h5⟩ := h
      exact ⟨_, _, h5, X, Y, b, h1, h2, h3, h4, rfl, rfl⟩
    · rename_i hne
      obtain ⟨v, news, h1, h2⟩ := opBin_val h
      exact ⟨v, news, h1, h2⟩
  · simp only [opUn] at h ⊢
    split at h <;> first | exact h.elim | exact ⟨_, _, h, rfl, rfl⟩ | (obtain ⟨r, h1, h2⟩ := h; exact ⟨_, _, h2, r, h1, rfl, rfl⟩)
  · simp only [opConv2] at h ⊢
    split at h
    · simp only [opToBytes] at h ⊢
      split at h
      · split at h
        · split at h
          case isFalse => exact h.elim
          rename_i hc
          exact ⟨_, _, h.2, by rw [if_pos hc]; exact ⟨h.1, rfl, rfl⟩⟩
        · exact h.elim
      · exact h.elim
    · simp only [opToStr] at h ⊢
      split at h
      · split at h
        · split at h
          case isFalse => exact h.elim
          rename_i hc
          obtain ⟨p, es, l, h1, h2, h3⟩ := h
          exact ⟨_, _, h3, by rw [if_pos hc]; exact ⟨p, es, l, h1, h2, rfl, rfl⟩⟩
        · exact h.elim
      · exact h.elim
    simp only [opConv] at h ⊢
    split at h
    · split at h
      · obtain ⟨r, h2, h3⟩ := h
        exact ⟨_, _, h3, r, h2, rfl, rfl⟩
      · exact h.elim
    · split at h
      · exact ⟨_, _, h, rfl, rfl⟩
      · exact h.elim
    · exact h.elim
  · simp only [opMakeFunc] at h ⊢
    split at h <;> first | exact h.elim | exact ⟨_, _, h, rfl, rfl⟩
  · simp only [opMakeSlice] at h ⊢
    split at h
    · split at h
      · split at h
        case isFalse => exact h.elim
        rename_i hc
        obtain ⟨h2, h3, h4, h5, h6, h⟩ := h
        exact ⟨_, _, h, by rw [if_pos hc]; exact ⟨h2, h3, h4, h5, h6, rfl, rfl⟩⟩
      · exact h.elim
    · exact h.elim
  · simp only [opSlice] at h ⊢
    split at h
    · split at h
      · split at h
        · obtain ⟨h1, h2, h3, s', h4, h⟩ := h
          exact ⟨_, _, h, h1, h2, h3, s', h4, rfl, rfl⟩
        · exact h.elim
      · split at h
        · split at h
          · obtain ⟨h1, h2, h3, h⟩ := h
            split at h
            · split at h
              case isFalse => exact h.elim
              rename_i hrz
              subst hrz
              obtain ⟨o, l, h5, h6, h⟩ := h
              exact ⟨_, _, h, h1, h2, h3, by rw [if_pos rfl]; exact ⟨o, l, h5, h6, rfl, rfl⟩⟩
            · exact h.elim
          · obtain ⟨h1, h2, h3, h⟩ := h
            split at h
            case isFalse => exact h.elim
            rename_i hrz
            subst hrz
            obtain ⟨es', h5, h⟩ := h
            exact ⟨_, _, h, h1, h2, h3, by rw [if_pos rfl]; exact ⟨es', h5, rfl, rfl⟩⟩
          · obtain ⟨h1, h2, h3, h4, V, h5, h⟩ := h
            exact ⟨_, _, h, h1, h2, h3, h4, V, h5, rfl, rfl⟩
          · exact h.elim
        · exact h.elim
      · exact h.elim
    · exact h.elim
  · simp only [opFieldAddr] at h ⊢
    split at h
    · split at h <;> first | exact h.elim | exact ⟨_, _, h, rfl, rfl⟩
    · exact h.elim
  · simp only [opField] at h ⊢
    split at h
    · split at h
      · split at h
        case isFalse => exact h.elim
        rename_i hc
        exact ⟨_, _, h, by rw [if_pos hc]; exact ⟨rfl, rfl⟩⟩
      · exact h.elim
    · exact h.elim
  · simp only [opIndexAddr] at h ⊢
    split at h
    · split at h
      · obtain ⟨i, h1, h2, h⟩ := h
        split at h
        · split at h
          case isFalse => exact h.elim
          rename_i hrz
          subst hrz
          exact ⟨_, _, h, i, h1, h2, by rw [if_pos rfl]; exact ⟨rfl, rfl⟩⟩
        · exact h.elim
      · split at h
        case isFalse => exact h.elim
        rename_i hrz
        subst hrz
        obtain ⟨i, h1, e, h3, h⟩ := h
        exact ⟨_, _, h, by rw [if_pos rfl]; exact ⟨i, h1, e, h3, rfl, rfl⟩⟩
      · obtain ⟨s, o, es, h1, i, h2, e, h3, h⟩ := h
        exact ⟨_, _, h, s, o, es, h1, i, h2, e, h3, rfl, rfl⟩
      · exact h.elim
    · split at h
      case h_2 => exact h.elim
      split at h
      · obtain ⟨i, h1, h2, h⟩ := h; exact ⟨_, _, h, i, h1, h2, rfl, rfl⟩
      · obtain ⟨i, h1, h2, h⟩ := h; exact ⟨_, _, h, i, h1, h2, rfl, rfl⟩
      · obtain ⟨i, h1, h2, h⟩ := h; exact ⟨_, _, h, i, h1, h2, rfl, rfl⟩
      · exact h.elim
  · simp only [opIndex] at h ⊢
    split at h
    · obtain ⟨i, h1, h2, h⟩ := h; exact ⟨_, _, h, i, h1, h2, rfl, rfl⟩
    · split at h
      case h_2 => exact h.elim
      obtain ⟨i, h1, h2, v, h3, h⟩ := h; exact ⟨_, _, h, i, h1, h2, v, h3, rfl, rfl⟩
    · exact h.elim
  · simp only [opExtract] at h ⊢
    split at h
    · split at h <;> first | exact h.elim | exact ⟨_, _, h, rfl, rfl⟩
    · exact h.elim
  · unfold opLookup at h ⊢
    split at h
    case h_2 => exact h.elim
    obtain ⟨kt, vt, p, es, z, v, h1, h2, h3, h4, h5, h6, h7⟩ := h
    exact ⟨_, _, h7, kt, vt, p, es, z, v, h1, h2, h3, h4, h5, h6, rfl, rfl⟩
  · split at h
    · split at h
      · simp only [opLen] at h ⊢
        split at h
        all_goals first
          | exact h.elim
          | exact ⟨_, _, h, rfl, rfl⟩
      · exact h.elim
    · split at h
      · simp only [opMinMax] at h ⊢
        split at h <;> first | exact h.elim | exact ⟨_, _, h, rfl, rfl⟩
      · exact h.elim
    · split at h
      · simp only [opMinMax] at h ⊢
        split at h <;> first | exact h.elim | exact ⟨_, _, h, rfl, rfl⟩
      · exact h.elim
    · unfold opCall at h ⊢
      split at h
      · obtain ⟨us, r, h1, h2, h4⟩ := h
        exact ⟨_, _, h4, us, r, h1, h2, rfl, rfl⟩
      · exact h.elim
    · exact h.elim
  · exact h.elim
end
end Go.Proofs.YtjajnladldchcaaDoor
namespace Go.Proofs.YtjajnladldchcaaDoor
open Go.RowKit
set_option linter.unusedSimpArgs false
set_option linter.unusedVariables false

section
variable {P : Program} {w0 w : World} {L : Nat → Prop} {n : Nat} {σ : AS} {a : Act} {c : Ctx} {F : Nat → Nat → Prop} {ops : Array Oper} {Q : AS → Prop} {E : Tab}

theorem adds_tm (l : News) : ∀ σ : AS, (σ.adds l).tm = σ.tm := by
  induction l with
  | nil => intro σ; rfl
  | cons x l ih => intro σ; obtain ⟨s, k⟩ := x; simp only [AS.adds]; rw [ih]; rfl
theorem put_mem (σ : AS) (d : Option Nat) (t : T) : (σ.put d t).mem = σ.mem := by cases d <;> rfl
theorem adds_mem_old {l : News} {s : Nat} {k : Blk} (h : ∀ x ∈ l, σ.mem x.1 = none) (hs : σ.mem s = some k) : (σ.adds l).mem s = some k := by
  rw [adds_mem_ne fun x hx e => by have := h x hx; rw [e, hs] at this; cases this]
  exact hs
theorem adds_mem_new : ∀ {l : News} {σ : AS}, (l.map (·.1)).Nodup → ∀ x ∈ l, (σ.adds l).mem x.1 = some x.2
  | [], _, _, x, hx => by cases hx
  | (s, k) :: l, σ, hn, x, hx => by
    simp only [List.map_cons, List.nodup_cons, List.mem_map, not_exists, not_and] at hn
    cases hx with
    | head =>
      simp only [AS.adds]
      rw [adds_mem_ne fun y hy e => hn.1 y hy e]
      simp [AS.add]
    | tail _ hx => exact adds_mem_new hn.2 x hx

theorem ope_mono {site : Nat} {op : Op} {K K' : AS → T → Prop} (h : ope P E site op σ K) (hK : ∀ σ' v, K σ' v → K' σ' v) : ope P E site op σ K' := by
  unfold ope at h ⊢
  split at h
  · unfold opStore at h ⊢
    split at h
    · split at h
      case isFalse => exact h.elim
      rename_i hc
      rw [if_pos hc]
      split at h
      · split at h
        · split at h
          case isFalse => exact h.elim
          rename_i hc
          rw [if_pos hc]
          exact hK _ _ h
        · exact h.elim
      · split at h
        · obtain ⟨e, h1, h3⟩ := h
          refine ⟨e, h1, ?_⟩
          split at h3
          case isFalse => exact h3.elim
          rename_i hc
          rw [if_pos hc]
          obtain ⟨es', h4, h5⟩ := h3
          exact ⟨es', h4, hK _ _ h5⟩
        · exact h.elim
      · exact h.elim
    · exact h.elim
  · exact ⟨h.1, fun b => hK _ _ (h.2 b)⟩
  · unfold opMapSet at h ⊢
    split at h
    case h_2 => exact h.elim
    obtain ⟨kt, vt, p, es, u, h1, h2, h3, h4, h5⟩ := h
    exact ⟨kt, vt, p, es, u, h1, h2, h3, h4, hK _ _ h5⟩
  · split at h
    · split at h
      case isFalse => exact h.elim
      rename_i htt
      subst htt
      rw [if_pos rfl]
      unfold opAppend at h ⊢
      split at h
      · split at h
        · split at h
          case isFalse => exact h.elim
          rename_i hc
          rw [if_pos hc]
          obtain ⟨p2, src, h0, src', h⟩ := h
          refine ⟨p2, src, h0, src', ?_⟩
          split at h
          · exact ⟨h.1, h.2.1, h.2.2.1, h.2.2.2.1, hK _ _ h.2.2.2.2⟩
          · split at h
            · split at h
              case isFalse => exact h.elim
              rename_i hrz
              subst hrz
              rw [if_pos rfl]
              obtain ⟨h1, h2, h3, h4, h5, h6, h7⟩ := h
              exact ⟨h1, h2, h3, h4, h5, h6, hK _ _ h7⟩
            · exact h.elim
          · exact h.elim
        · exact h.elim
      · exact h.elim
    · split at h
      · obtain ⟨σ', t, h1, h2⟩ := h
        exact ⟨σ', t, h1, hK _ _ h2⟩
      split at h
      · obtain ⟨R, h1, h2⟩ := h
        exact ⟨R, h1, fun σ' t hR => hK _ _ (h2 σ' t hR)⟩
      · obtain ⟨tl, ml, h1, us, bs, bs', r, ss, h2, h3, h4, h5, h6, h7, h8, h9⟩ := h
        exact ⟨tl, ml, h1, us, bs, bs', r, ss, h2, h3, h4, h5, h6, h7, h8, hK _ _ h9⟩
    · obtain ⟨σ', u, h1, h2⟩ := h
      exact ⟨σ', u, h1, hK _ _ h2⟩
    · exact h.elim
  · exact h.elim

theorem adds_par {s : Nat} {k : Blk} (hk : k.isPar = true) : ∀ {l : News} {σ : AS}, (∀ x ∈ l, x.2.isPar = false) → (σ.adds l).mem s = some k → σ.mem s = some k
  | [], _, _, h => h
  | (s', k') :: l, σ, hl, h => by
    have h1 := adds_par hk (l := l) (fun x hx => hl x (by simp [hx])) h
    simp only [AS.add] at h1
    split at h1
    · cases h1
      have := hl _ List.mem_cons_self
      rw [hk] at this; cases this
    · exact h1
theorem tr_of_vc : ∀ (l : List Oper) (is : List Nat) (σ : AS), is.map (fun i => ops[i]?) = l.map some → vcOps P E ops l σ Q → ∃ m, Le σ.mem m ∧ Tr P E ops Q is σ m
  | [], [], σ, _, h => ⟨σ.mem, Le.refl _, h⟩
  | o :: l, k :: is, σ, hl, h => by
    simp only [List.map_cons, List.cons.injEq] at hl
    obtain ⟨h0, hl'⟩ := hl
    have quiet : wants ops σ o → vcOp P E o σ (fun σ' => vcOps P E ops l σ' Q) → isEff E o.op = false → ∃ m, Le σ.mem m ∧ Tr P E ops Q (k :: is) σ m := fun hw hv he => by
      unfold vcOp at hv
      rw [he] at hv
      simp only at hv
      obtain ⟨v, news, h3, h4⟩ := opn'_val hv
      obtain ⟨h1, h2, h3, hnp⟩ := vcNews_ok h3
      obtain ⟨m, hm, ht⟩ := tr_of_vc l is _ hl' h3
      rw [put_mem] at hm
      refine ⟨m, ⟨fun s k hs => hm.1 s k (adds_mem_old h1 hs), fun s k hk hs => adds_par hk hnp (hm.2 s k hk hs)⟩, ?_⟩
      simp only [Tr]
      refine ⟨o, h0, ?_⟩
      rw [if_neg (by simp [he])]
      exact ⟨some (v, news), ⟨hw, opn'_up (fun s k hs => hm.1 s k (adds_mem_old h1 hs)) h4, h1, fun x hx => hm.1 _ _ (adds_mem_new h2 x hx)⟩, ht⟩
    have skip : skips ops σ o → vcOps P E ops l (σ.put o.dst (.tup [])) Q → isEff E o.op = false → ∃ m, Le σ.mem m ∧ Tr P E ops Q (k :: is) σ m := fun hs hv he => by
      obtain ⟨m, hm, ht⟩ := tr_of_vc l is _ hl' hv
      rw [put_mem] at hm
      refine ⟨m, hm, ?_⟩
      simp only [Tr]
      refine ⟨o, h0, ?_⟩
      rw [if_neg (by simp [he])]
      exact ⟨none, hs, ht⟩
    rw [vcOps_cons] at h
    cases hg : o.guard with
    | none =>
      rw [hg] at h
      cases he : isEff E o.op with
      | false => exact quiet (by simp [wants, hg]) h he
      | true =>
        unfold vcOp at h
        rw [he] at h
        simp only at h
        refine ⟨σ.mem, Le.refl _, ?_⟩
        simp only [Tr]
        refine ⟨o, h0, ?_⟩
        rw [if_pos he]
        exact ⟨by first | exact hg | trivial, by first | rfl | trivial, ope_mono h fun σ' v hv => tr_of_vc l is _ hl' hv⟩
    | some jw =>
      obtain ⟨j, want⟩ := jw
      rw [hg] at h
      simp only at h
      split at h
      · exact h.elim
      rename_i he
      cases hd : gdst ops j with
      | none => rw [hd] at h; exact h.elim
      | some t =>
        rw [hd] at h
        simp only at h
        split at h
        · rename_i b hb
          have same : ∀ v, σ.tm t = v → σ.put (some t) v = σ := fun v hv => by
            have : (fun k => if k = t then v else σ.tm k) = σ.tm := by
              funext k
              split
              · rename_i e; rw [e, hv]
              · rfl
            simp only [AS.put, this]
          cases b with
          | true =>
            rw [same _ hb] at h
            cases want with
            | true => exact quiet (by simp only [wants, hg]; exact ⟨t, hd, hb⟩) h he
            | false => exact skip (by simp only [skips, hg]; exact ⟨t, hd, .inl hb⟩) h he
          | false =>
            rw [same _ hb] at h
            cases want with
            | true => exact skip (by simp only [skips, hg]; exact ⟨t, hd, .inl hb⟩) h he
            | false => exact quiet (by simp only [wants, hg]; exact ⟨t, hd, hb⟩) h he
        · rename_i hb
          exact skip (by simp only [skips, hg]; exact ⟨t, hd, .inr hb⟩) h he
        · exact h.elim

theorem IsLit.ok {v : T} {u V : Value} (hi : IsLit v u) (h : RT c w v V) : V = u ∧ vOk u = true := by
  unfold IsLit at hi
  split at hi
  · subst hi
    have := one_lit h; subst this
    refine ⟨rfl, ?_⟩
    have := h.2
    cases V <;> first | exact this | (cases this; done)
  · obtain ⟨X, rfl, rfl⟩ := hi
    cases V <;> try exact h.elim
    rename_i cs
    obtain ⟨e1, e2⟩ := RL.lits_eq h
    refine ⟨by rw [← e1], ?_⟩
    show X.toArray.toList.all _ = true
    simpa using e2
  · exact hi.elim
theorem opMapSet_ok (h : H w0 L n σ a w c F) {t : TypeId} {x k v : T} {X Y V : Value} (hX : RT c w x X) (hY : RT c w k Y) (hV : RT c w v V) {K : AS → T → Prop} (hk : opMapSet P σ t x k v K) :
    ∃ σ1 w', K σ1 (.tup []) ∧ (Instr.mapUpdate t X Y V).run P w = .ok () w' ∧ ∃ c' F', H w0 L n σ1 a w' c' F' := by
  unfold opMapSet at hk
  split at hk
  case h_2 => exact hk.elim
  rename_i b s
  obtain ⟨kt, vt, p, es, u, h1, h2, h3, h4, h5⟩ := hk
  have := one_lit hX; subst this
  have := one_lit hY; subst this
  obtain ⟨rfl, hu⟩ := h4.ok hV
  obtain ⟨a1, ⟨ents, ck, a2, a3, a4⟩, a5⟩ := h.mem p _ h3
  obtain ⟨ents', ck', hrun, b3, b4⟩ : ∃ ents' ck', (Instr.mapUpdate t (.map (some b)) (.string s) V).run P w = .ok () { w with heap := w.heap.setIfInBounds b (.map ents' ck') } ∧
      ents'.toList.map (fun e => (e.key, e.val)) = ((upM es s V).map fun p => (Value.string p.1, p.2)) ∧ ((upM es s V).all fun p => vOk p.2) = true := by
    rcases find_getM s ents.toList es 0 a3 with ⟨b1, b2, b5⟩ | ⟨j, e, b1, b2, b3, b4, b5⟩
    · refine ⟨ents.push ⟨.string s, V, ck⟩, ck + 1, ?_, ?_, ?_⟩
      · unfold Instr.mapUpdate
        simp only [Sem.run_bind, MapKept.run_getObj_map a2, run_underlying h1, Result.andThen_ok, Sem.run_pure]
        rw [MapKept.run_checkKey h2 (k := .string s) trivial]
        simp only [Result.andThen_ok]
        rw [MapKept.run_findKey h2 b1]
        simp only [Result.andThen_ok]
        rw [MapKept.run_setObj_map _ a2]
      · rw [b5 V]; simp [a3]
      · rw [b5 V]; simp only [List.all_append, a4, Bool.true_and, List.all_cons, List.all_nil, Bool.and_true]; exact hu
    · have hj : ents[j]? = some e := by simpa using b2
      refine ⟨ents.modify j fun e => { e with key := .string s, val := V }, ck, ?_, ?_, ?_⟩
      · unfold Instr.mapUpdate
        simp only [Sem.run_bind, MapKept.run_getObj_map a2, run_underlying h1, Result.andThen_ok, Sem.run_pure]
        rw [MapKept.run_checkKey h2 (k := .string s) trivial]
        simp only [Result.andThen_ok]
        rw [MapKept.run_findKey h2 b1]
        simp only [Result.andThen_ok, Nat.zero_add, hj, Option.map_some, Option.getD_some, b3, Sem.run_bind]
        rw [MapKept.run_keyThatStays (d := .string) (k := .string s) trivial]
        simp only [Result.andThen_ok]
        rw [MapKept.run_setObj_map _ a2]
      · rw [b5 V]
        apply List.ext_getElem?
        intro i
        have hi := congrArg (fun l => l[i]?) a3
        simp only [List.getElem?_map, Array.getElem?_toList] at hi
        simp only [List.getElem?_map, Array.getElem?_toList, Array.getElem?_modify, List.getElem?_set]
        by_cases hji : j = i
        · subst hji
          have hl : j < es.length := by
            rw [hj] at hi
            cases hq : es[j]? with
            | none => rw [hq] at hi; cases hi
            | some _ => exact (List.getElem?_eq_some_iff.1 hq).1
          simp [hj, hl]
        · simp only [if_neg hji]; exact hi
      · rw [b5 V]
        rw [List.all_eq_true] at a4 ⊢
        intro q hq
        rcases List.mem_or_eq_of_mem_set hq with hq | rfl
        · exact a4 q hq
        · exact hu
  have hlt : b < w.heap.size := (Array.getElem?_eq_some_iff.1 a2).1
  refine ⟨_, _, h5, hrun, c, _, h.setBlk (G := F p) h3 (fun _ h => h) (fun b' hb' => ?_) (by simp) rfl rfl rfl ⟨a1, ⟨ents', ck', by simp [hlt], b3, b4⟩, a5⟩⟩
  have hne : b ≠ b' := fun e => hb' (.inl (e ▸ a1))
  simp [hne]
theorem makeMap_ok (h : H w0 L n σ a w c F) {site : Nat} (hs : σ.mem site = none) : ∃ c' F', H w0 L n (σ.add site (.mapb w.heap.size [])) a (w.alloc (.map #[] 0)) c' F' := by
  refine ⟨_, _, h.addSite (i := .var w.heap.size) (G := fun b => b = w.heap.size) ((Bel.refl _ _).alloc (Nat.le_refl _) _) hs (fun b hb => ?_) ⟨by simp [Ctx.add], ⟨#[], 0, (MapKept.heap_alloc w _).1, rfl, rfl⟩, fun k => Iff.rfl⟩⟩
  subst hb
  exact ⟨Nat.le_refl _, by show _ < (w.heap.push _).size; simp⟩

theorem opFam_ok (h0 : Holds w0 L n σ a w) {f : FuncId} {args : List Operand} {K : AS → T → Prop} (hk : opFam P f args σ K) :
    Callable P f ∧ Calls P f (args.map a.eval).toArray w fun e w' => ∃ σ' v V c' F', K σ' v ∧ e = .returned V ∧ H w0 L n σ' a w' c' F' ∧ RT c' w' v V := by
  obtain ⟨R, ⟨hc, hf⟩, hk⟩ := hk
  exact ⟨hc, (hf _ _ _ _ _ h0).mono fun e w' ⟨σ', t, V, c', F', h1, h2⟩ => ⟨σ', t, V, c', F', hk _ _ h1, h2⟩⟩
theorem ope_ok (hE : E.ok P) (h : H w0 L n σ a w c F) {o : Oper} {K : AS → T → Prop} (hk : ope P E (siteOf o) o.op σ K) (K' : Act → World → Prop) (QQ : Exit → Act → World → Prop)
    (hK : ∀ σ1 v V w' c' F', K σ1 v → H w0 L n σ1 a w' c' F' → RT c' w' v V → K' (a.put o.dst V) w') : o.wp P a w K' QQ := by
  unfold ope at hk
  split at hk
  · rename_i t x y ho
    obtain ⟨σ1, w', h1, h2, c', F', h3⟩ := opStore_ok hE h (h.get x) (h.get y) hk
    unfold Oper.wp execOp
    simp only [ho, Sem.run_bind, h2, Result.andThen_ok, Sem.run_pure]
    exact hK σ1 (.tup []) undef w' c' F' h1 h3 trivial
  · rename_i t ho
    obtain ⟨hs, hk⟩ := hk
    obtain ⟨c', F', h3⟩ := makeMap_ok h hs
    unfold Oper.wp execOp
    simp only [ho, Option.map_none, Sem.run_bind, run_makeMap, Result.andThen_ok, Sem.run_pure]
    exact hK _ _ _ _ c' F' (hk w.heap.size) h3 (RT_lit _ rfl)
  · rename_i t x k v ho
    obtain ⟨σ1, w', h1, h2, c', F', h3⟩ := opMapSet_ok h (h.get x) (h.get k) (h.get v) hk
    unfold Oper.wp execOp
    simp only [ho, Sem.run_bind, h2, Result.andThen_ok, Sem.run_pure]
    exact hK σ1 (.tup []) undef w' c' F' h1 h3 trivial
  · rename_i cl ho
    split at hk
    case h_4 => exact hk.elim
    case h_3 =>
      rename_i x y t t' hc hx ht
      have hx' : cl.args = #[x, y] := by rw [← Array.toArray_toList (xs := cl.args), hx]
      have ht' : cl.argTypes = #[t, t'] := by rw [← Array.toArray_toList (xs := cl.argTypes), ht]
      obtain ⟨σ1, v, h1, hk⟩ := hk
      obtain ⟨V, w', h2, c', F', h3, h4⟩ := h1 _ _ _ _ _ o.type ⟨c, F, h⟩
      unfold Oper.wp execOp
      simp only [ho, resolve, hc, invoke, builtin, Sem.run_bind, Sem.run_pure, Result.andThen_ok, hx', ht', List.map_toArray, List.map_cons, List.map_nil, h2]
      exact hK σ1 v V w' c' F' hk h3 h4
    case h_2 =>
      rename_i f hc
      have hk2 : Callable P f ∧ Calls P f (cl.args.toList.map a.eval).toArray w fun e w' => ∃ σ1 v V c' F', K σ1 v ∧ e = .returned V ∧ H w0 L n σ1 a w' c' F' ∧ RT c' w' v V := by
        split at hk
        · obtain ⟨σ1, v, h1, h2, h3⟩ := opOwn_ok ⟨c, F, h⟩ hk
          exact ⟨h2, h3.mono fun e w' ⟨V, c', F', h4⟩ => ⟨σ1, v, V, c', F', h1, h4⟩⟩
        split at hk
        · exact opFam_ok ⟨c, F, h⟩ hk
        · obtain ⟨σ1, v, h1, h2, h3⟩ := opMark_ok ⟨c, F, h⟩ hk
          exact ⟨h2, h3.mono fun e w' ⟨V, c', F', h4⟩ => ⟨σ1, v, V, c', F', h1, h4⟩⟩
      obtain ⟨h2, h3⟩ := hk2
      unfold Oper.wp
      rw [run_call h2 a (.func f) cl o ho hc rfl rfl, Oper.upon_enter]
      have e : (List.map a.eval cl.args.toList).toArray = cl.args.map a.eval := by apply Array.ext'; simp
      rw [e] at h3
      rw [Array.append_empty]
      refine Calls.mono h3 ?_
      rintro e w' ⟨σ1, v, V, c', F', h1, rfl, h4, h5⟩
      exact hK σ1 v V w' c' F' h1 h4 h5
    rename_i x y t t' hc hx ht
    split at hk
    case isFalse => exact hk.elim
    rename_i htt
    subst htt
    have hx' : cl.args = #[x, y] := by rw [← Array.toArray_toList (xs := cl.args), hx]
    have ht' : cl.argTypes = #[t, t] := by rw [← Array.toArray_toList (xs := cl.argTypes), ht]
    obtain ⟨σ1, v, h1, V, w', h2, c', F', h3, h4⟩ := opAppend_ok hE (ty := o.type) h (h.get x) (h.get y) hk
    unfold Oper.wp execOp
    simp only [ho, resolve, hc, invoke, builtin, Sem.run_bind, Sem.run_pure, Result.andThen_ok, hx', ht', List.map_toArray, List.map_cons, List.map_nil, h2]
    exact hK σ1 v V w' c' F' h1 h3 h4
  · exact hk.elim

theorem H.drawn (h : H w0 L n σ a w c F) : H w0 L n σ a { w with drawn := w.drawn + 1 } c F :=
  h.world (w' := w.drew) ((Bel.refl _ _).drew)

theorem step_ok (hE : E.ok P) (h : H w0 L n σ a w c F) {m : Nat → Option Blk} (hm : Le σ.mem m) {i : Nat} {o : Oper} (ho : ops[i]? = some o) (hn : ∀ k, o.dst = some k → k < n) {d : Dec} (hd : VOk P E ops o d σ m)
    {K : Act → World → Prop} {QQ : Exit → Act → World → Prop} (hK : ∀ a' w', Holds w0 L n (app o d σ) a' w' → K a' w') : wpOp P ops QQ i K a w := by
  unfold wpOp
  simp only [ho]
  cases d with
  | none =>
    have hs : skips ops σ o := hd
    rw [if_neg (by simp [skips_ok h hs])]
    exact hK _ _ ⟨c, F, h.put hn trivial⟩
  | some d =>
    obtain ⟨v, news⟩ := d
    obtain ⟨h1, h2, h3, h4⟩ := hd
    rw [if_pos (wants_ok h h1)]
    have hsup : Sup σ m := ⟨fun s k hs => by
      cases hq : σ.mem s with
      | none => exact .inl rfl
      | some k' => have := hm.1 s k' hq; rw [hs] at this; cases this; exact .inr rfl, hm.2⟩
    obtain ⟨v', news', ⟨rfl, rfl⟩, h5⟩ := opn_ok hE h hsup h2
    refine .inl (h5 h3 K QQ fun V w' ⟨c', F', h6, h7⟩ => hK _ _ ⟨c', F', ?_⟩)
    exact h6.put hn h7

theorem app_mem_le {m : Nat → Option Blk} (hm : Le σ.mem m) {o : Oper} {d : Dec} (hd : VOk P E ops o d σ m) : Le (app o d σ).mem m := by
  cases d with
  | none => rw [show (app o none σ).mem = σ.mem from put_mem _ _ _]; exact hm
  | some d =>
    obtain ⟨v, news⟩ := d
    obtain ⟨_, _, h3, h4⟩ := hd
    rw [show (app o (some (v, news)) σ).mem = (σ.adds news).mem from put_mem _ _ _]
    have key : ∀ (l : News) (σ : AS), (∀ s k, σ.mem s = some k → m s = some k) → (∀ x ∈ l, m x.1 = some x.2) → ∀ s k, (σ.adds l).mem s = some k → m s = some k := by
      intro l
      induction l with
      | nil => intro σ h _; exact h
      | cons x l ih =>
        intro σ h hx
        obtain ⟨s', k'⟩ := x
        refine ih _ (fun s k hs => ?_) (fun y hy => hx y (by simp [hy]))
        simp only [AS.add] at hs
        split at hs
        · rename_i e; have := hx (s', k') (by simp); rw [e, ← hs]; exact this
        · exact h s k hs
    exact ⟨key news σ hm.1 h4, fun s k hk hs => adds_mem_old h3 (hm.2 s k hk hs)⟩


def earlyOp (o : Oper) : Bool := o.guard.isNone && match o.op with
  | .move _ => true
  | .assign _ => true
  | .binOp .. => true
  | .unOp .. => true
  | .slice _ _ _ _ none => true
  | .fieldAddr .. => true
  | .indexAddr .. => true
  | .extract .. => true
  | .call c => match c.callee, c.args.toList, c.argTypes.toList with
    | .builtin .len, [_], [_] => true
    | _, _, _ => false
  | _ => false
theorem early_ok (hE : E.ok P) (h : H w0 L n σ a w c F) {m : Nat → Option Blk} (hsup : Sup σ m) {o : Oper} {K : T → News → Prop} (he : earlyOp o = true) (hk : opn P E (siteOf o) o.op σ.get m K) :
    ∃ v V, K v [] ∧ (∀ w' : World, (execOp a.eval o).run P w' = .ok (.value V) w') ∧ RT c w v V := by
  have pureOp : ∀ {s : Sem Value}, execOp a.eval o = (do pure (.value (← s)) : Sem Next) → (∃ v V, K v [] ∧ (∀ w' : World, s.run P w' = .ok V w') ∧ RT c w v V) →
      ∃ v V, K v [] ∧ (∀ w' : World, (execOp a.eval o).run P w' = .ok (.value V) w') ∧ RT c w v V := by
    intro s hs ⟨v, V, h1, h2, h3⟩
    refine ⟨v, V, h1, fun w' => ?_, h3⟩
    rw [hs, Sem.run_bind, h2 w']
    simp
  unfold earlyOp at he
  simp only [Bool.and_eq_true] at he
  obtain ⟨_, he⟩ := he
  split at he
  · rename_i x ho
    rw [ho] at hk
    exact pureOp (s := pure (a.eval x)) (by simp [execOp, ho]) ⟨σ.get x, _, hk, fun _ => rfl, h.get x⟩
  · rename_i x ho
    rw [ho] at hk
    exact pureOp (s := pure (a.eval x)) (by simp [execOp, ho]) ⟨σ.get x, _, hk, fun _ => rfl, h.get x⟩
  · rename_i op t x y ty ho
    rw [ho] at hk
    replace hk : (match σ.get x, σ.get y with
      | .agg xs, .agg ys => opEqs P K op t xs ys
      | u, v => opBin E K op t u v) := hk
    split at hk
    · rename_i xs ys ex ey
      obtain ⟨b, h1, h2⟩ := opEqs_ok ho (ex ▸ h.get x) (ey ▸ h.get y) hk
      exact ⟨_, _, h1, h2, RT_lit _ rfl⟩
    obtain ⟨v, V, h1, h2, h3⟩ := opBin_all hE (h.get x) (h.get y) hk
    have hX : (∃ k n, a.eval x = .int k n) ∨ (∃ s, a.eval x = .string s) ∨ (∃ b, a.eval x = .bool b) ∨ ∃ s n k, a.eval x = .slice s n k := by
      have hx := h.get x
      unfold opBin at hk
      split at hk
      · rename_i e1 _; rw [e1] at hx; exact .inl ⟨_, _, one_lit hx⟩
      · rename_i e1 _; rw [e1] at hx; exact .inr (.inl ⟨_, one_lit hx⟩)
      · rename_i e1 _
        rw [e1] at hx
        obtain ⟨hx, _⟩ := hx
        generalize a.eval x = X at hx ⊢
        cases hx with | nn hx => exact .inr (.inr (.inr ⟨_, _, _, rfl⟩))
      · rename_i e1 _; rw [e1] at hx; exact .inr (.inr (.inr ⟨_, _, _, one_lit hx⟩))
      · rename_i e1 _; rw [e1] at hx; exact .inr (.inr (.inl ⟨_, one_lit hx⟩))
      · exact hk.elim
    exact pureOp (s := binOp op t (a.eval x) (a.eval y)) (by simp [execOp, ho, eqGuard_lit hX]) ⟨v, V, h1, h2, h3⟩
  · rename_i op t x ho
    rw [ho] at hk
    exact pureOp (s := Op.unary op (a.eval x)) (by simp [execOp, ho]) (opUn_all (K := K) (h.get x) hk)
  · rename_i t x lo hi ho
    rw [ho] at hk
    exact pureOp (s := Instr.sliceAt t (a.eval x) (lo.map a.eval) (hi.map a.eval) none) (by simp [execOp, ho]) (opSlice_all hE h hsup (K := K) (h.get x) (ROT.map h lo) (ROT.map h hi) hk)
  · rename_i s x f ho
    rw [ho] at hk
    exact pureOp (s := Instr.fieldAt s (a.eval x) f) (by simp [execOp, ho]) (opFieldAddr_all hE (K := K) (h.get x) hk)
  · rename_i t x i ho
    rw [ho] at hk
    exact pureOp (s := Instr.indexAt t (a.eval x) (a.eval i)) (by simp [execOp, ho]) (opIndexAddr_all hE h hsup (K := K) (h.get x) (h.get i) hk)
  · rename_i x i ho
    rw [ho] at hk
    exact pureOp (s := Instr.extract (a.eval x) i) (by simp [execOp, ho]) (opExtract_all (K := K) (h.get x) hk)
  · rename_i cl ho
    split at he
    · rename_i x t hc hx ht
      rw [ho] at hk
      have hk' : opLen E K t (σ.get x) := by
        unfold opn at hk
        simpa only [hc, hx, ht] using hk
      have hx' : cl.args = #[x] := by rw [← Array.toArray_toList (xs := cl.args), hx]
      have ht' : cl.argTypes = #[t] := by rw [← Array.toArray_toList (xs := cl.argTypes), ht]
      exact pureOp (s := Builtin.len_ #[t] o.type #[a.eval x]) (by simp [execOp, ho, resolve, hc, invoke, builtin, hx', ht']) (opLen_all hE (h.get x) hk')
    · cases he
  · cases he
def LkT (σ : AS) (x : T) : Prop :=
  (∀ s j, x = .one (.ptr s j) → σ.mem s ≠ none) ∧ (∀ s i j, x = .one (.eptr s i j) → σ.mem s ≠ none ∧ ∀ rz es, σ.mem s = some (.row true rz es) → ∀ i j y, elt es i j = some y → y.isCell = true) ∧ ∀ xs j, x = .one (.bptr xs j) → ∀ y ∈ xs, y.isFree = true
theorem H.there (h : H w0 L n σ a w c F) (q : Operand) : LkT σ (σ.get q) := by
  have hg := h.get q
  refine ⟨fun s j e => ?_, fun s i j e => ?_, fun xs j e => ?_⟩
  · rw [e] at hg
    obtain ⟨hg, _⟩ := hg
    generalize a.eval q = v at hg
    cases hg with | ptr hat =>
    intro hn
    rw [(h.dom s hn).1] at hat
    cases hat
  · rw [e] at hg
    obtain ⟨hg, _⟩ := hg
    generalize a.eval q = v at hg
    cases hg with | eptr hat =>
    refine ⟨fun hn => ?_, fun rz es hs i j y hy => ?_⟩
    · rw [(h.dom s hn).1] at hat
      cases hat
    · rcases h.mem s _ hs with ⟨h1, _⟩ | ⟨b, cap, _, C, e, fz, G, a1, a2, a3, a4, a5, a6, a7, a8, _⟩
      · rw [h1] at hat; cases hat
      · obtain ⟨h1, h2⟩ := elt_lt a6 hy
        have h3 := fit_lt h1 h2 a3
        have hv : C[i * rz + j]? = some (C[i * rz + j]'(by omega)) := by simp
        exact ((a8 i j y _ hy hv).resolve_right (by simp)).isCell
  · rw [e] at hg
    obtain ⟨hg, _⟩ := hg
    generalize a.eval q = v at hg
    cases hg with | bptr b o vals h1 h2 h3 h4 h5 =>
    intro y hy
    obtain ⟨k, hk⟩ := List.getElem?_of_mem hy
    exact h2 k y hk

def OpIn (n : Nat) (o : Oper) : Prop := (∀ k, o.dst = some k → k < n) ∧ ∀ t, .tmp t ∈ o.op.operands → t < n
def OpsIn (n : Nat) (ops : Array Oper) : Prop := ∀ (i : Nat) (o : Oper), ops[i]? = some o → OpIn n o

structure Sim (P : Program) (E : Tab) (n : Nat) (HH : AS → Act → World → Prop) : Prop where
  eff : ∀ {σ : AS} {a : Act} {w : World} {o : Oper} {K : AS → T → Prop}, OpIn n o → HH σ a w → ope P E (siteOf o) o.op σ K →
    ∀ (K' : Act → World → Prop) (QQ : Exit → Act → World → Prop), (∀ σ1 v V w', K σ1 v → HH (σ1.put o.dst v) (a.put o.dst V) w' → K' (a.put o.dst V) w') → o.wp P a w K' QQ
  quiet : ∀ {ops : Array Oper} {σ : AS} {a : Act} {w : World} {m : Nat → Option Blk} {i : Nat} {o : Oper} {d : Dec}, OpsIn n ops → HH σ a w → Le σ.mem m → ops[i]? = some o → VOk P E ops o d σ m →
    ∀ {K : Act → World → Prop} {QQ : Exit → Act → World → Prop}, (∀ a' w', HH (app o d σ) a' w' → K a' w') → wpOp P ops QQ i K a w
  first : ∀ {σ : AS} {a : Act} {w : World} {m : Nat → Option Blk} {o : Oper} {K : T → News → Prop}, OpIn n o → HH σ a w → Sup σ m → earlyOp o = true → opn P E (siteOf o) o.op σ.get m K →
    ∃ v V, K v [] ∧ (∀ w' : World, (execOp a.eval o).run P w' = .ok (.value V) w') ∧ HH (σ.put o.dst v) (a.put o.dst V) w
  test : ∀ {σ : AS} {a : Act} {w : World} {q : Operand} {b : Bool}, (∀ t, q = .tmp t → t < n) → HH σ a w → σ.get q = .one (.lit (.bool b)) → a.eval q = .bool b
  drew : ∀ {σ : AS} {a : Act} {w : World}, HH σ a w → HH σ a { w with drawn := w.drawn + 1 }
  weak : ∀ {σ σ' : AS} {a : Act} {w : World}, Weak σ σ' → HH σ a w → HH σ' a w
  there : ∀ {σ : AS} {a : Act} {w : World}, HH σ a w → ∀ q : Operand, LkT σ (σ.get q)

theorem sim_std (hE : E.ok P) : Sim P E n (Holds w0 L n) where
  eff := fun ho ⟨c, F, h⟩ hk => by
    exact fun K' QQ hK => ope_ok hE h hk K' QQ fun σ1 v V w' c' F' h1 h3 h4 => hK σ1 v V w' h1 ⟨c', F', h3.put ho.1 h4⟩
  quiet := fun hops ⟨c, F, h⟩ hm ho hd K QQ hK => step_ok hE h hm ho (hops _ _ ho).1 hd hK
  first := fun ho ⟨c, F, h⟩ hsup he hk => by
    obtain ⟨v, V, h1, h2, h3⟩ := early_ok hE h hsup he hk
    exact ⟨v, V, h1, h2, c, F, h.put ho.1 h3⟩
  test := fun {σ a w q b} _ ⟨c, F, h⟩ hb => by
    have hg := h.get q
    rw [hb] at hg
    exact one_lit hg
  drew := fun ⟨c, F, h⟩ => ⟨c, F, h.drawn⟩
  weak := fun hw h => hw _ _ _ _ _ h
  there := fun ⟨c, F, h⟩ q => h.there q

theorem region_ok {HH : AS → Act → World → Prop} (S : Sim P E n HH) {QQ : Exit → Act → World → Prop} (hQ : ∀ σ' a' w', HH σ' a' w' → Q σ' → QQ .normal a' w') (hn : OpsIn n ops) :
    ∀ (l : List Nat) {σ : AS} {a : Act} {w : World} {m : Nat → Option Blk}, HH σ a w → Le σ.mem m → Tr P E ops Q l σ m → wpOps P ops QQ l a w
  | [], σ, a, w, m, h, _, ht => hQ σ a w h ht
  | i :: l, σ, a, w, m, h, hm, ht => by
    rw [wpOps_cons]
    obtain ⟨o, ho, ht⟩ := ht
    split at ht
    · obtain ⟨hg, rfl, ht⟩ := ht
      unfold wpOp
      simp only [ho]
      rw [if_pos (by simp [Region.wanted, hg])]
      exact .inl (S.eff (hn i o ho) h ht _ _ fun σ1 v V w' ⟨m', hm', h1⟩ h3 => region_ok S hQ hn l h3 hm' h1)
    · obtain ⟨d, hd, ht⟩ := ht
      exact S.quiet hn h hm ho hd fun a' w' h' => region_ok S hQ hn l h' (app_mem_le hm hd) ht

end
end Go.Proofs.YtjajnladldchcaaDoor
namespace Go.Proofs.YtjajnladldchcaaDoor
open Go.RowKit
set_option linter.unusedSimpArgs false
set_option linter.unusedVariables false

def maskE (acc : Array Nat) : List Edge → Nat
  | [] => 0
  | e :: l => if Region.binds .any e then 2 ^ e.on ||| acc.getD e.on 0 ||| maskE acc l else maskE acc l
def masks : List Oper → Array Nat → Array Nat
  | [], acc => acc
  | o :: l, acc => masks l (acc.push (maskE acc o.after.toList))
def freeP (E : Tab) (ops : Array Oper) (x y : Oper) : Bool := !isEff E x.op && !isEff E y.op && x.apart ops y
def regOk (E : Tab) (ops : Array Oper) : Bool :=
  let b := masks ops.toList #[]
  (List.range ops.size).all fun i => match ops[i]? with
    | none => false
    | some oi => (oi.after.toList.all fun e => !Region.binds .any e || e.on < i) &&
      (List.range i).all fun k => (b.getD i 0).testBit k || match ops[k]? with
        | some ok => freeP E ops ok oi
        | none => false

inductive Anc (ops : Array Oper) : Nat → Nat → Prop
  | edge {i : Nat} {o : Oper} {e : Edge} : ops[i]? = some o → e ∈ o.after.toList → Region.binds .any e = true → Anc ops e.on i
  | step {k i : Nat} {o : Oper} {e : Edge} : ops[i]? = some o → e ∈ o.after.toList → Region.binds .any e = true → Anc ops k e.on → Anc ops k i

section
variable {P : Program} {w0 w : World} {L : Nat → Prop} {n : Nat} {σ : AS} {a : Act} {c : Ctx} {F : Nat → Nat → Prop} {ops : Array Oper} {Q : AS → Prop} {E : Tab}

theorem maskE_ok {acc : Array Nat} : ∀ {l : List Edge} {k : Nat}, (maskE acc l).testBit k = true → ∃ e ∈ l, Region.binds .any e = true ∧ (e.on = k ∨ (acc.getD e.on 0).testBit k = true)
  | [], k, h => by simp [maskE] at h
  | e :: l, k, h => by
    simp only [maskE] at h
    split at h
    · rename_i hb
      simp only [Nat.testBit_or, Bool.or_eq_true] at h
      rcases h with (h | h) | h
      · rw [Nat.testBit_two_pow] at h
        exact ⟨e, by simp, hb, .inl (by simpa using h)⟩
      · exact ⟨e, by simp, hb, .inr h⟩
      · obtain ⟨e', h1, h2⟩ := maskE_ok h
        exact ⟨e', by simp [h1], h2⟩
    · obtain ⟨e', h1, h2⟩ := maskE_ok h
      exact ⟨e', by simp [h1], h2⟩

theorem masks_ok : ∀ (l : List Oper) (acc : Array Nat), (∀ j, l[j]? = ops[acc.size + j]?) → (∀ i k, (acc.getD i 0).testBit k = true → Anc ops k i) → ∀ i k, ((masks l acc).getD i 0).testBit k = true → Anc ops k i
  | [], acc, _, h => h
  | o :: l, acc, hl, h => by
    have h0 : ops[acc.size]? = some o := by simpa using (hl 0).symm
    refine masks_ok l _ (fun j => by have := hl (j + 1); simpa [Nat.add_assoc, Nat.add_comm 1 j] using this) fun i k hk => ?_
    simp only [Array.getD_eq_getD_getElem?, Array.getElem?_push] at hk
    split at hk
    · rename_i e
      subst e
      simp only [Option.getD_some] at hk
      obtain ⟨e, h1, h2, h3⟩ := maskE_ok hk
      rcases h3 with h3 | h3
      · subst h3; exact .edge h0 h1 h2
      · exact .step h0 h1 h2 (h _ _ h3)
    · exact h i k (by rw [Array.getD_eq_getD_getElem?]; exact hk)

theorem regOk_spec (h : regOk E ops = true) : (∀ (i : Nat) (o : Oper) (e : Edge), ops[i]? = some o → e ∈ o.after.toList → Region.binds .any e = true → e.on < i) ∧
    ∀ (i k : Nat) (oi ok : Oper), ops[i]? = some oi → ops[k]? = some ok → k < i → Anc ops k i ∨ freeP E ops ok oi = true := by
  unfold regOk at h
  simp only [List.all_eq_true, List.mem_range] at h
  refine ⟨fun i o e ho he hb => ?_, fun i k oi ok hi hk hlt => ?_⟩
  · have := h i (Array.getElem?_eq_some_iff.1 ho).1
    simp only [ho, Bool.and_eq_true, List.all_eq_true] at this
    have := this.1 e he
    simp [hb] at this
    exact this
  · have := h i (Array.getElem?_eq_some_iff.1 hi).1
    simp only [hi, Bool.and_eq_true, List.all_eq_true, List.mem_range] at this
    have := this.2 k hlt
    simp only [hk, Bool.or_eq_true] at this
    refine this.imp (fun h1 => ?_) id
    exact masks_ok ops.toList #[] (fun j => by simp) (fun i k hk => by simp at hk) i k h1

def Shut (ops : Array Oper) (listed : Array Bool) : Prop := ∀ (i : Nat) (o : Oper) (e : Edge), listed.getD i true = true → ops[i]? = some o → e ∈ o.after.toList → Region.binds .any e = true → listed.getD e.on false = true

theorem Anc.listed {listed : Array Bool} (hl : listed.size = ops.size) (hs : Shut ops listed) {k i : Nat} (h : Anc ops k i) : (∀ (o : Oper) (e : Edge), ops[i]? = some o → e ∈ o.after.toList → Region.binds .any e = true → listed.getD e.on false = true) → listed.getD k false = true := by
  induction h with
  | edge h1 h2 h3 => exact fun hr => hr _ _ h1 h2 h3
  | @step k i o e h1 h2 h3 h4 ih =>
    intro hr
    have := hr _ _ h1 h2 h3
    refine ih fun o' e' ho' he' hb' => hs e.on o' e' ?_ ho' he' hb'
    rw [Array.getD_eq_getD_getElem?] at this ⊢
    cases hq : listed[e.on]? with
    | none => rfl
    | some b => rw [hq] at this; simpa using this

theorem opnd_mem {x : Operand} {t : Nat} {o : Oper} (h : x ∈ o.op.operands) (e : x = .tmp t) : t ∈ o.looksAt ops := by
  subst e
  exact List.mem_append_left _ (List.mem_filterMap.2 ⟨.tmp t, by simpa using h, rfl⟩)

theorem get_put {t : Nat} {x : Operand} {v : T} (h : x ≠ .tmp t) : (σ.put (some t) v).get x = σ.get x := by
  cases x with
  | tmp k => simp only [AS.put, AS.get]; rw [if_neg (fun e => h (by rw [e]))]
  | _ => rfl
theorem get_adds {l : News} {x : Operand} : (σ.adds l).get x = σ.get x := by
  cases x <;> first | rfl | (simp only [AS.get, adds_tm])

theorem get_app {x y : Oper} (hap : x.apart ops y = true) (d : Dec) : ∀ u ∈ y.op.operands, (app x d σ).get u = σ.get u := by
  intro u hu
  obtain ⟨h1, _, _⟩ := Oper.apart_spec hap
  have hne : ∀ t, x.dst = some t → u ≠ .tmp t := fun t ht e => h1 t ht (opnd_mem hu e)
  cases d with
  | none =>
    simp only [app]
    cases hd : x.dst with
    | none => rfl
    | some t => exact get_put (hne t hd)
  | some d =>
    obtain ⟨v, news⟩ := d
    simp only [app]
    cases hd : x.dst with
    | none => simp only [AS.put]; exact get_adds
    | some t => rw [get_put (hne t hd)]; exact get_adds
theorem get_app' {x y : Oper} (hap : x.apart ops y = true) (d : Dec) : ∀ u ∈ x.op.operands, (app y d σ).get u = σ.get u := by
  intro u hu
  obtain ⟨_, _, h3⟩ := Oper.apart_spec hap
  have hne : ∀ t, y.dst = some t → u ≠ .tmp t := fun t ht e => h3 t ht (opnd_mem hu e)
  cases d with
  | none =>
    simp only [app]
    cases hd : y.dst with
    | none => rfl
    | some t => exact get_put (hne t hd)
  | some d =>
    obtain ⟨v, news⟩ := d
    simp only [app]
    cases hd : y.dst with
    | none => simp only [AS.put]; exact get_adds
    | some t => rw [get_put (hne t hd)]; exact get_adds

theorem tm_app {x : Oper} {d : Dec} {t : Nat} (h : x.dst ≠ some t) : (app x d σ).tm t = σ.tm t := by
  cases d with
  | none =>
    simp only [app]
    cases hd : x.dst with
    | none => rfl
    | some k => simp only [AS.put]; rw [if_neg (fun e => h (by rw [hd, e]))]
  | some d =>
    obtain ⟨v, news⟩ := d
    simp only [app]
    cases hd : x.dst with
    | none => simp only [AS.put, adds_tm]
    | some k => simp only [AS.put, adds_tm]; rw [if_neg (fun e => h (by rw [hd, e]))]

theorem guard_looks {o : Oper} {j t : Nat} {want : Bool} (hg : o.guard = some (j, want)) (ht : gdst ops j = some t) : t ∈ o.looksAt ops := by
  unfold gdst at ht
  simp [Oper.looksAt, hg, ht]

theorem wants_app {x y : Oper} {d : Dec} (h : ∀ t, x.dst = some t → t ∉ y.looksAt ops) : (wants ops (app x d σ) y ↔ wants ops σ y) ∧ (skips ops (app x d σ) y ↔ skips ops σ y) := by
  unfold wants skips
  cases hg : y.guard with
  | none => exact ⟨Iff.rfl, Iff.rfl⟩
  | some jw =>
    obtain ⟨j, want⟩ := jw
    have key : ∀ t, gdst ops j = some t → (app x d σ).tm t = σ.tm t := fun t ht => tm_app fun e => h t e (guard_looks hg ht)
    constructor
    · constructor
      · rintro ⟨t, h1, h2⟩; exact ⟨t, h1, by rw [← key t h1]; exact h2⟩
      · rintro ⟨t, h1, h2⟩; exact ⟨t, h1, by rw [key t h1]; exact h2⟩
    · constructor
      · rintro ⟨t, h1, h2⟩; exact ⟨t, h1, by rw [← key t h1]; exact h2⟩
      · rintro ⟨t, h1, h2⟩; exact ⟨t, h1, by rw [key t h1]; exact h2⟩

theorem opn'_congr {site : Nat} {op : Op} {g g' : Operand → T} {m : Nat → Option Blk} {K : T → News → Prop} (hg : ∀ x ∈ op.operands, g' x = g x) (h : opn P E site op g m K) : opn P E site op g' m K := by
  unfold opn at h ⊢
  cases op <;> simp only [Op.operands] at hg h ⊢ <;> try exact h
  case move x => rw [hg x (by simp)]; exact h
  case assign x => rw [hg x (by simp)]; exact h
  case pick a b c => rw [hg a (by simp), hg b (by simp), hg c (by simp)]; exact h
  case box t x => rw [hg x (by simp)]; exact h
  case lookup t x k ok => rw [hg x (by simp), hg k (by simp)]; exact h
  case build t ps =>
    have e : (ps.toList.map fun p => (p.1, g' p.2)) = ps.toList.map fun p => (p.1, g p.2) := List.map_congr_left fun p hp => by rw [hg p.2 (by simpa using ⟨p.1, by simpa using hp⟩)]
    rw [e]; exact h
  case buildSlice t len ps =>
    have e : (ps.toList.map fun p => (p.1, g' p.2)) = ps.toList.map fun p => (p.1, g p.2) := List.map_congr_left fun p hp => by rw [hg p.2 (by simpa using ⟨p.1, by simpa using hp⟩)]
    rw [e]; exact h
  case load t x => rw [hg x (by simp)]; exact h
  case nilCheck x => rw [hg x (by simp)]; exact h
  case binOp o t x y t' => rw [hg x (by simp), hg y (by simp)]; exact h
  case unOp o t x => rw [hg x (by simp)]; exact h
  case convert s d x => rw [hg x (by simp)]; exact h
  case makeFunc fn first caps =>
    have e : caps.toList.map g' = caps.toList.map g := List.map_congr_left fun p hp => hg p (by simp at hp ⊢; exact .inr hp)
    rw [e]; exact h
  case makeSlice t l c => rw [hg l (by simp), hg c (by simp)]; exact h
  case slice t x lo hi mx =>
    cases mx with
    | some _ => exact h
    | none =>
      have e1 : lo.map g' = lo.map g := by cases lo with | none => rfl | some u => simp [hg u (by simp)]
      have e2 : hi.map g' = hi.map g := by cases hi with | none => rfl | some u => simp [hg u (by simp)]
      simp only at h ⊢
      rw [hg x (by simp), e1, e2]; exact h
  case fieldAddr s x f => rw [hg x (by simp)]; exact h
  case field s x f => rw [hg x (by simp)]; exact h
  case indexAddr t x i => rw [hg x (by simp), hg i (by simp)]; exact h
  case index t x i => rw [hg x (by simp), hg i (by simp)]; exact h
  case extract x i => rw [hg x (by simp)]; exact h
  case call cl =>
    simp only [Call.operands] at hg
    have hargs : ∀ x ∈ cl.args.toList, g' x = g x := fun x hx => hg x (by simp at hx ⊢; exact .inr hx)
    split at h
    · split at h
      · rename_i x t hx ht
        rw [hargs x (by simp [hx])]; exact h
      · exact h
    · split at h
      · rename_i x y hx
        rw [hargs x (by simp [hx]), hargs y (by simp [hx])]; exact h
      · exact h
    · split at h
      · rename_i x y hx
        rw [hargs x (by simp [hx]), hargs y (by simp [hx])]; exact h
      · exact h
    · rename_i f hc
      have e : cl.args.toList.map g' = cl.args.toList.map g := List.map_congr_left hargs
      rw [hg f (by simp [hc]), e]; exact h
    · exact h

theorem adds_mem_none {l : News} {s : Nat} (h : (σ.adds l).mem s = none) : σ.mem s = none ∧ ∀ x ∈ l, x.1 ≠ s := by
  induction l generalizing σ with
  | nil => exact ⟨h, by simp⟩
  | cons x l ih =>
    obtain ⟨s', k⟩ := x
    obtain ⟨h1, h2⟩ := ih h
    simp only [AS.add] at h1
    split at h1
    · cases h1
    · rename_i hne
      refine ⟨h1, fun y hy => ?_⟩
      cases hy with
      | head => exact fun e => hne e.symm
      | tail _ hy => exact h2 y hy

theorem adds_comm {l1 l2 : News} (h : ∀ x ∈ l1, ∀ y ∈ l2, x.1 ≠ y.1) : (σ.adds l1).adds l2 = (σ.adds l2).adds l1 := by
  have e : ∀ (l : News) (τ : AS), τ.adds l = ⟨τ.tm, (τ.adds l).mem⟩ := fun l τ => by rw [← adds_tm l τ]
  have key : ∀ s, ((σ.adds l1).adds l2).mem s = ((σ.adds l2).adds l1).mem s := by
    intro s
    have frame : ∀ (l : News) (τ τ' : AS), τ.mem s = τ'.mem s → (τ.adds l).mem s = (τ'.adds l).mem s := by
      intro l
      induction l with
      | nil => intro τ τ' h; exact h
      | cons x l ih =>
        intro τ τ' h
        obtain ⟨s', k⟩ := x
        refine ih _ _ ?_
        simp only [AS.add]
        split
        · rfl
        · exact h
    by_cases h2 : ∃ y ∈ l2, y.1 = s
    · obtain ⟨y, hy, rfl⟩ := h2
      rw [adds_mem_ne (l := l1) (σ := σ.adds l2) (fun x hx => h x hx y hy)]
      exact frame l2 _ _ (adds_mem_ne (fun x hx => h x hx y hy))
    · have h2' : ∀ y ∈ l2, y.1 ≠ s := fun y hy e => h2 ⟨y, hy, e⟩
      rw [adds_mem_ne (l := l2) h2']
      exact frame l1 _ _ (adds_mem_ne h2').symm
  rw [e l2, e l1 (σ.adds l2), adds_tm, adds_tm]
  congr 1
  funext s; exact key s

theorem put_put {d e : Option Nat} (h : ∀ k, d = some k → e ≠ some k) (u v : T) : (σ.put d u).put e v = (σ.put e v).put d u := by
  cases d with
  | none => rfl
  | some d =>
    cases e with
    | none => rfl
    | some e =>
      have hne : d ≠ e := fun q => h d rfl (by rw [q])
      simp only [AS.put]
      congr 1
      funext k
      by_cases h1 : k = e
      · have : ¬ e = d := fun q => hne q.symm
        simp [h1, this]
      · simp [h1]
theorem put_adds {d : Option Nat} {v : T} {l : News} : (σ.put d v).adds l = (σ.adds l).put d v := by
  induction l generalizing σ with
  | nil => rfl
  | cons x l ih =>
    obtain ⟨s, k⟩ := x
    simp only [AS.adds]
    rw [← ih]
    congr 1
    cases d <;> rfl

theorem app_mem_none {x : Oper} {d : Dec} {s : Nat} (h : (app x d σ).mem s = none) : σ.mem s = none := by
  cases d with
  | none => simpa only [app, put_mem] using h
  | some d => obtain ⟨v, news⟩ := d; simp only [app, put_mem] at h; exact (adds_mem_none h).1

theorem Tr.swap {k i : Nat} {l : List Nat} {m : Nat → Option Blk} {ok oi : Oper} (hk : ops[k]? = some ok) (hi : ops[i]? = some oi) (hf : freeP E ops ok oi = true) (h : Tr P E ops Q (k :: i :: l) σ m) : Tr P E ops Q (i :: k :: l) σ m := by
  simp only [freeP, Bool.and_eq_true, Bool.not_eq_true'] at hf
  obtain ⟨⟨e1, e2⟩, hap⟩ := hf
  obtain ⟨p1, p2, p3⟩ := Oper.apart_spec hap
  simp only [Tr] at h ⊢
  obtain ⟨o1, h1, h⟩ := h
  rw [hk] at h1; cases h1
  rw [if_neg (by simp [e1])] at h
  obtain ⟨dk, hdk, o2, h2, h⟩ := h
  rw [hi] at h2; cases h2
  rw [if_neg (by simp [e2])] at h
  obtain ⟨di, hdi, h⟩ := h
  refine ⟨oi, hi, ?_⟩
  rw [if_neg (by simp [e2])]
  have hdi' : VOk P E ops oi di σ m := by
    cases di with
    | none => exact ((wants_app p1).2).1 hdi
    | some d =>
      obtain ⟨v, news⟩ := d
      obtain ⟨a1, a2, a3, a4⟩ := hdi
      exact ⟨((wants_app p1).1).1 a1, opn'_congr (fun x hx => (get_app hap dk x hx).symm) a2, fun x hx => app_mem_none (a3 x hx), a4⟩
  refine ⟨di, hdi', ok, hk, ?_⟩
  rw [if_neg (by simp [e1])]
  refine ⟨dk, ?_, ?_⟩
  · cases dk with
    | none => exact ((wants_app p3).2).2 hdk
    | some d =>
      obtain ⟨v, news⟩ := d
      obtain ⟨a1, a2, a3, a4⟩ := hdk
      refine ⟨((wants_app p3).1).2 a1, opn'_congr (fun x hx => get_app' hap di x hx) a2, fun x hx => ?_, a4⟩
      cases di with
      | none => simpa only [app, put_mem] using a3 x hx
      | some d' =>
        obtain ⟨v', news'⟩ := d'
        simp only [app, put_mem]
        rw [adds_mem_ne]
        · exact a3 x hx
        · intro y hy e
          have := hdi.2.2.1 y hy
          simp only [app, put_mem] at this
          exact (adds_mem_none this).2 x hx e.symm
  · have : app ok dk (app oi di σ) = app oi di (app ok dk σ) := by
      cases dk with
      | none =>
        cases di with
        | none => simp only [app]; exact (put_put (fun k hk => fun e => p2 k hk e) _ _).symm
        | some d' =>
          obtain ⟨v', news'⟩ := d'
          simp only [app]
          rw [put_adds]
          exact (put_put (fun k hk => fun e => p2 k hk e) _ _).symm
      | some d =>
        obtain ⟨v, news⟩ := d
        cases di with
        | none =>
          simp only [app]
          rw [put_adds]
          exact (put_put (fun k hk => fun e => p2 k hk e) _ _).symm
        | some d' =>
          obtain ⟨v', news'⟩ := d'
          simp only [app]
          rw [put_adds, put_adds, put_put (fun k hk => fun e => p2 k hk e)]
          congr 2
          refine adds_comm fun x hx y hy e => ?_
          have := hdi.2.2.1 x hx
          simp only [app, put_mem] at this
          exact (adds_mem_none this).2 y hy e.symm
    rw [this]; exact h

theorem Tr.cons {k : Nat} {l l' : List Nat} {m : Nat → Option Blk} {ok : Oper} (hk : ops[k]? = some ok) (he : isEff E ok.op = false) (hl : ∀ σ, Tr P E ops Q l σ m → Tr P E ops Q l' σ m) (h : Tr P E ops Q (k :: l) σ m) : Tr P E ops Q (k :: l') σ m := by
  simp only [Tr] at h ⊢
  obtain ⟨o1, h1, h⟩ := h
  rw [hk] at h1; cases h1
  rw [if_neg (by simp [he])] at h
  obtain ⟨d, hd, h⟩ := h
  exact ⟨ok, hk, by rw [if_neg (by simp [he])]; exact ⟨d, hd, hl _ h⟩⟩

theorem Tr.front {i : Nat} {oi : Oper} {m : Nat → Option Blk} (hi : ops[i]? = some oi) (post : List Nat) : ∀ (pre : List Nat) (σ : AS), (∀ k ∈ pre, ∃ ok, ops[k]? = some ok ∧ freeP E ops ok oi = true) → Tr P E ops Q (pre ++ i :: post) σ m → Tr P E ops Q (i :: (pre ++ post)) σ m
  | [], _, _, h => h
  | k :: pre, σ, hf, h => by
    obtain ⟨ok, hk, hf1⟩ := hf k (by simp)
    have he : isEff E ok.op = false := by
      simp only [freeP, Bool.and_eq_true, Bool.not_eq_true'] at hf1
      exact hf1.1.1
    exact Tr.swap hk hi hf1 (Tr.cons hk he (fun σ => Tr.front hi post pre σ fun k hk => hf k (by simp [hk])) h)

def left (ops : Array Oper) (listed : Array Bool) : List Nat := (List.range ops.size).filter fun i => !listed.getD i true

theorem left_split {listed : Array Bool} (hl : listed.size = ops.size) {i : Nat} (hi : i < ops.size) (hu : listed.getD i true = false) :
    ∃ pre post, left ops listed = pre ++ i :: post ∧ (∀ k ∈ pre, k < i ∧ k < ops.size ∧ listed.getD k true = false) ∧ left ops (listed.setIfInBounds i true) = pre ++ post := by
  have hr : List.range ops.size = List.range i ++ i :: List.range' (i + 1) (ops.size - i - 1) := by
    rw [List.range_eq_range', List.range_eq_range', ← List.range'_succ, show ops.size - i - 1 + 1 = ops.size - i by omega]
    have := List.range'_append (s := 0) (m := i) (n := ops.size - i) (step := 1)
    rw [show 0 + 1 * i = i by omega, show i + (ops.size - i) = ops.size by omega] at this
    exact this.symm
  refine ⟨(List.range i).filter fun k => !listed.getD k true, (List.range' (i + 1) (ops.size - i - 1)).filter fun k => !listed.getD k true, ?_, fun k hk => ?_, ?_⟩
  · unfold left
    rw [hr, List.filter_append, List.filter_cons_of_pos (by simp only [hu]; rfl)]
  · simp only [List.mem_filter, List.mem_range, Bool.not_eq_true'] at hk
    exact ⟨hk.1, by omega, hk.2⟩
  · unfold left
    have hset : (listed.setIfInBounds i true).getD i true = true := by simp [hl, hi]
    rw [hr, List.filter_append, List.filter_cons_of_neg (by simp only [hset]; decide)]
    congr 1
    · refine List.filter_congr fun k hk => ?_
      rw [getD_set_ne true (by have := List.mem_range.1 hk; omega)]
    · refine List.filter_congr fun k hk => ?_
      have := (List.mem_range'_1.1 hk).1
      rw [getD_set_ne true (by omega)]

theorem getD_true_false {listed : Array Bool} {i : Nat} (h : i < listed.size) : listed.getD i true = listed.getD i false := by
  simp [h]

def Back (ops : Array Oper) : Prop := ∀ (i : Nat) (o : Oper) (e : Edge), ops[i]? = some o → e ∈ o.after.toList → Region.binds .any e = true → e.on < i
def PairOn (E : Tab) (ops : Array Oper) (late : Nat → Prop) : Prop := ∀ (i k : Nat) (oi ok : Oper), ops[i]? = some oi → ops[k]? = some ok → k < i → late i → late k → Anc ops k i ∨ freeP E ops ok oi = true
theorem regOk_back (h : regOk E ops = true) : Back ops := (regOk_spec h).1
theorem regOk_pair (h : regOk E ops = true) : PairOn E ops (fun _ => True) := fun i k oi ok h1 h2 h3 _ _ => (regOk_spec h).2 i k oi ok h1 h2 h3

theorem ready_left (hback : Back ops) {listed : Array Bool} (hl : listed.size = ops.size) (hr : Region.ready .any ops listed = []) : left ops listed = [] := by
  cases hq : left ops listed with
  | nil => rfl
  | cons i l =>
    exfalso
    have hi : i ∈ left ops listed := by rw [hq]; simp
    simp only [left, List.mem_filter, List.mem_range, Bool.not_eq_true'] at hi
    have : i ∈ Region.ready .any ops listed := by
      rw [mem_ready]
      refine ⟨hi.2, ops[i], by simp [hi.1], fun e he hb => ?_⟩
      have hlt := hback i ops[i] e (by simp [hi.1]) (by simpa using he) hb
      have hes : e.on < ops.size := by omega
      cases hv : listed.getD e.on false with
      | true => rfl
      | false =>
        exfalso
        have hv' : listed.getD e.on true = false := by rw [getD_true_false (by omega)]; exact hv
        obtain ⟨pre, post, h1, h2, _⟩ := left_split hl hi.1 hi.2
        rw [hq] at h1
        have hpre : pre = [] := by
          cases pre with
          | nil => rfl
          | cons p pre =>
            simp at h1
            have := (h2 p (by simp)).1
            omega
        have hmem : e.on ∈ left ops listed := by
          simp only [left, List.mem_filter, List.mem_range, Bool.not_eq_true']
          exact ⟨hes, hv'⟩
        obtain ⟨pre', post', h3, h4, _⟩ := left_split hl hes hv'
        have hsorted : (left ops listed).Pairwise (· < ·) := List.Pairwise.filter _ List.pairwise_lt_range
        rw [hq] at hsorted hmem
        cases hmem with
        | head => omega
        | tail _ hm => have := List.rel_of_pairwise_cons hsorted hm; omega
    rw [hr] at this
    cases this

theorem drawn_ok {HH : AS → Act → World → Prop} (S : Sim P E n HH) {QQ : Exit → Act → World → Prop} {late : Nat → Prop} (hback : Back ops) (hpair : PairOn E ops late) (hQ : ∀ σ' a' w', HH σ' a' w' → Q σ' → QQ .normal a' w') (hn : OpsIn n ops) :
    ∀ (fuel : Nat) {listed : Array Bool} {σ : AS} {a : Act} {w : World} {m : Nat → Option Blk}, listed.size = ops.size → (left ops listed).length ≤ fuel → (∀ k, listed.getD k true = false → late k) → Shut ops listed → HH σ a w → Le σ.mem m → Tr P E ops Q (left ops listed) σ m → wpAny P .any ops QQ fuel listed a w := by
  have done : ∀ {listed : Array Bool} {σ : AS} {a : Act} {w : World} {m : Nat → Option Blk}, left ops listed = [] → HH σ a w → Tr P E ops Q (left ops listed) σ m → QQ .normal a w := fun hleft h ht => by
    rw [hleft] at ht
    exact hQ _ _ _ h ht
  intro fuel
  induction fuel with
  | zero =>
    intro listed σ a w m hl hf hlate hs h hm ht
    have hleft : left ops listed = [] := List.eq_nil_of_length_eq_zero (by omega)
    refine ⟨?_, done hleft h ht⟩
    cases hr : Region.ready .any ops listed with
    | nil => rfl
    | cons i l =>
      exfalso
      have hi : i ∈ Region.ready .any ops listed := by rw [hr]; simp
      rw [mem_ready] at hi
      obtain ⟨hu, o, ho, _⟩ := hi
      have : i ∈ left ops listed := by
        simp only [left, List.mem_filter, List.mem_range, Bool.not_eq_true']
        exact ⟨(Array.getElem?_eq_some_iff.1 ho).1, hu⟩
      rw [hleft] at this
      cases this
  | succ fuel ih =>
    intro listed σ a w m hl hf hlate hs h hm ht
    refine ⟨fun hr => done (ready_left hback hl hr) h ht, fun i hi => ?_⟩
    rw [mem_ready] at hi
    obtain ⟨hu, oi, hoi, hpre⟩ := hi
    have hlt := (Array.getElem?_eq_some_iff.1 hoi).1
    obtain ⟨pre, post, h1, h2, h3⟩ := left_split hl hlt hu
    have hfree : ∀ k ∈ pre, ∃ ok, ops[k]? = some ok ∧ freeP E ops ok oi = true := fun k hk => by
      obtain ⟨k1, k2, k3⟩ := h2 k hk
      have hok' : ops[k]? = some ops[k] := by simp [k2]
      refine ⟨ops[k], hok', ?_⟩
      rcases hpair i k oi ops[k] hoi hok' k1 (hlate i hu) (hlate k k3) with hA | hA
      · have := hA.listed hl hs (fun o e ho he hb => by rw [hoi] at ho; cases ho; exact hpre e (by simpa using he) hb)
        rw [← getD_true_false (by omega), k3] at this
        cases this
      · exact hA
    rw [h1] at ht
    have ht' := Tr.front hoi post pre σ hfree ht
    have hs' : Shut ops (listed.setIfInBounds i true) := fun j o e hj ho he hb => by
      by_cases e1 : i = j
      · subst e1
        rw [hoi] at ho; cases ho
        exact getD_set_true (hpre e (by simpa using he) hb)
      · rw [getD_set_ne true e1] at hj
        exact getD_set_true (hs j o e hj ho he hb)
    have hlate' : ∀ k, (listed.setIfInBounds i true).getD k true = false → late k := fun k hk => hlate k (by
      by_cases e1 : i = k
      · subst e1; exact hu
      · rwa [getD_set_ne true e1] at hk)
    have hf' : (left ops (listed.setIfInBounds i true)).length ≤ fuel := by
      rw [h3]; rw [h1] at hf; simp at hf ⊢; omega
    simp only [Tr] at ht'
    obtain ⟨o, ho, ht'⟩ := ht'
    rw [hoi] at ho; cases ho
    split at ht'
    · rename_i heff
      obtain ⟨hg, rfl, ht'⟩ := ht'
      unfold wpOp
      simp only [hoi]
      rw [if_pos (by simp [Region.wanted, hg])]
      exact .inl (S.eff (hn i oi hoi) h ht' _ _ fun σ1 v V w' ⟨m', hm', k1⟩ k3 => ih (by simpa using hl) hf' hlate' hs' k3 hm' (by rw [h3]; exact k1))
    · obtain ⟨d, hd, ht'⟩ := ht'
      exact S.quiet hn h hm hoi hd fun a' w' h' => ih (by simpa using hl) hf' hlate' hs' h' (app_mem_le hm hd) (by rw [h3]; exact ht')
end
end Go.Proofs.YtjajnladldchcaaDoor
namespace Go.Proofs.YtjajnladldchcaaDoor
open Go.RowKit
set_option linter.unusedSimpArgs false
set_option linter.unusedVariables false

section
variable {P : Program} {E : Tab} {ops : Array Oper} {Q : AS → Prop} {σ : AS}

def lateOp (o : Oper) : Bool := o.guard.isNone && match o.op with
  | .load _ _ => true
  | .alloc _ => true
  | .move _ => true
  | .assign _ => true
  | .binOp .. => true
  | .fieldAddr .. => true
  | .call c => match c.callee, c.args.toList, c.argTypes.toList with
    | .builtin .len, [_], [_] => true
    | _, _, _ => false
  | _ => false
def appOp (o : Oper) : Bool := o.dst.isSome && match o.op with
  | .call c => match c.callee with
    | .builtin .append => true
    | _ => false
  | _ => false

theorem bor_kill (s : Nat) (x : AV) : (x.kill s).bor = x.bor.kill s := by
  cases x with
  | ptr s' j => by_cases h : s' = s <;> simp [AV.kill, AV.bor, h]
  | eptr s' i j => by_cases h : s' = s <;> simp [AV.kill, AV.bor, h]
  | loc s' o l => by_cases h : s' = s <;> simp [AV.kill, AV.bor, h]
  | fn f caps => by_cases h : caps.all (AV.noref s) = true <;> simp [AV.kill, AV.bor, h]
  | _ => rfl
theorem mkT_kill (s : Nat) (g : Bool) (xs : List AV) : mkT g (xs.map (AV.kill s)) = (mkT g xs).kill s := by
  cases g
  · match xs with
    | [] => rfl
    | [x] => simp only [mkT, List.map_cons, List.map_nil, Bool.false_eq_true, if_false, T.kill, bor_kill]
    | _ :: _ :: _ => rfl
  · simp only [mkT, if_true, T.kill, List.map_map, T.agg.injEq]
    exact List.map_congr_left fun x _ => bor_kill s x
theorem kill_isCell {s : Nat} {x : AV} (h : x.isCell = true) : x.kill s = x := by cases x <;> first | rfl | cases h
theorem kills_isCell {s : Nat} {xs : List AV} (h : ∀ x ∈ xs, x.isCell = true) : xs.map (AV.kill s) = xs := by
  conv => rhs; rw [← List.map_id xs]
  exact List.map_congr_left fun x hx => kill_isCell (h x hx)

theorem kill_lit {s : Nat} {x : T} {v : Value} (h : x.kill s = .one (.lit v)) : x = .one (.lit v) := by
  cases x with
  | one x =>
    simp only [T.kill, T.one.injEq] at h
    cases x with
    | eptr s2 i2 j2 => by_cases e : s2 = s <;> simp [AV.kill, e] at h
    | ptr s2 j2 => by_cases e : s2 = s <;> simp [AV.kill, e] at h
    | loc s2 i2 j2 => by_cases e : s2 = s <;> simp [AV.kill, e] at h
    | fn f caps => by_cases e : caps.all (AV.noref s) = true <;> simp [AV.kill, e] at h
    | lit u => rw [← h]; rfl
    | _ => simp [AV.kill] at h
  | _ => simp [T.kill] at h
theorem kill_nn {s : Nat} {x : T} {sz : Nat} {es : List (List AV)} (h : x.kill s = .one (.nn sz es)) : x = .one (.nn sz es) := by
  cases x with
  | one x =>
    simp only [T.kill, T.one.injEq] at h
    cases x with
    | eptr s2 i2 j2 => by_cases e : s2 = s <;> simp [AV.kill, e] at h
    | ptr s2 j2 => by_cases e : s2 = s <;> simp [AV.kill, e] at h
    | loc s2 i2 j2 => by_cases e : s2 = s <;> simp [AV.kill, e] at h
    | fn f caps => by_cases e : caps.all (AV.noref s) = true <;> simp [AV.kill, e] at h
    | nn a b => rw [← h]; rfl
    | _ => simp [AV.kill] at h
  | _ => simp [T.kill] at h
theorem kill_row {s : Nat} {x : T} {o : Bool} {sz : Nat} {es : List (List AV)} (h : x.kill s = .one (.row o sz es)) : x = .one (.row o sz es) := by
  cases x with
  | one x =>
    simp only [T.kill, T.one.injEq] at h
    cases x with
    | eptr s2 i2 j2 => by_cases e : s2 = s <;> simp [AV.kill, e] at h
    | ptr s2 j2 => by_cases e : s2 = s <;> simp [AV.kill, e] at h
    | loc s2 i2 j2 => by_cases e : s2 = s <;> simp [AV.kill, e] at h
    | fn f caps => by_cases e : caps.all (AV.noref s) = true <;> simp [AV.kill, e] at h
    | row a b c => rw [← h]; rfl
    | _ => simp [AV.kill] at h
  | _ => simp [T.kill] at h
theorem kill_loc {s : Nat} {x : T} {s' o l : Nat} (h : x.kill s = .one (.loc s' o l)) : x = .one (.loc s' o l) ∧ s' ≠ s := by
  cases x with
  | one x =>
    simp only [T.kill, T.one.injEq] at h
    cases x with
    | loc s2 o2 l2 =>
      by_cases e : s2 = s
      · simp [AV.kill, e] at h
      · simp only [AV.kill, if_neg e, AV.loc.injEq] at h
        obtain ⟨rfl, rfl, rfl⟩ := h
        exact ⟨rfl, e⟩
    | ptr s2 j2 => by_cases e : s2 = s <;> simp [AV.kill, e] at h
    | eptr s2 i2 j2 => by_cases e : s2 = s <;> simp [AV.kill, e] at h
    | fn f caps => by_cases e : caps.all (AV.noref s) = true <;> simp [AV.kill, e] at h
    | _ => simp [AV.kill] at h
  | _ => simp [T.kill] at h
theorem kill_agg {s : Nat} {x : T} {xs : List AV} (h : x.kill s = .agg xs) : ∃ ys, x = .agg ys ∧ xs = ys.map (AV.kill s) := by
  cases x with
  | agg ys => simp only [T.kill, T.agg.injEq] at h; exact ⟨ys, rfl, h.symm⟩
  | _ => simp [T.kill] at h
theorem kill_lits {s : Nat} : ∀ {ys : List AV} {X : List Value}, ys.map (AV.kill s) = X.map AV.lit → ys = X.map AV.lit
  | [], [], _ => rfl
  | [], _ :: _, h => by simp at h
  | _ :: _, [], h => by simp at h
  | y :: ys, v :: X, h => by
    simp only [List.map_cons, List.cons.injEq] at h ⊢
    refine ⟨?_, kill_lits h.2⟩
    have h1 := h.1
    cases y with
    | eptr s2 i2 j2 => by_cases e : s2 = s <;> simp [AV.kill, e] at h1
    | ptr s2 j2 => by_cases e : s2 = s <;> simp [AV.kill, e] at h1
    | loc s2 i2 j2 => by_cases e : s2 = s <;> simp [AV.kill, e] at h1
    | fn f caps => by_cases e : caps.all (AV.noref s) = true <;> simp [AV.kill, e] at h1
    | lit u => exact h1
    | _ => simp [AV.kill] at h1
def KX (K : T → News → Prop) (s : Nat) (v : T) (n : News) : Prop := K v n ∧ n = [] ∧ v.kill s = v
theorem kx {K : T → News → Prop} {s : Nat} {u : Value} (h : K (.one (.lit u)) []) : KX K s (.one (.lit u)) [] := ⟨h, rfl, rfl⟩
theorem bin_drop {s : Nat} {op : BinOp} {t : TypeId} {x y : T} {K : T → News → Prop} (h : opBin E K op t (x.kill s) (y.kill s)) : opBin E (KX K s) op t x y := by
  unfold opBin at h
  split at h
  · rename_i ex ey
    rw [kill_lit ex, kill_lit ey]
    simp only [opBin]
    split at h
    · obtain ⟨h1, r, h2, h3⟩ := h; exact ⟨h1, r, h2, kx h3⟩
    · obtain ⟨h1, r, h2, h3⟩ := h; exact ⟨h1, r, h2, kx h3⟩
    · split at h
      case isFalse => exact h.elim
      rename_i hk
      subst hk
      simp only [if_true]
      split at h
      all_goals first
        | exact h.elim
        | exact kx h
        | (obtain ⟨r, h2, h3⟩ := h; exact ⟨r, h2, kx h3⟩)
        | (obtain ⟨h1, r, h2, h3⟩ := h; exact ⟨h1, r, h2, kx h3⟩)
  · rename_i ex ey
    rw [kill_lit ex, kill_lit ey]
    simp only [opBin]
    split at h <;> first
      | exact h.elim
      | exact kx h
      | exact ⟨h.1, kx h.2⟩
  · rename_i ex ey
    rw [kill_nn ex, kill_lit ey]
    simp only [opBin]
    split at h <;> first | exact h.elim | (rename_i e1; simp only [e1]; exact kx h) | exact kx h
  · rename_i ex ey
    rw [kill_lit ex, kill_lit ey]
    simp only [opBin]
    split at h <;> first | exact h.elim | (rename_i e1; simp only [e1]; exact kx h) | exact kx h
  · rename_i ex ey
    rw [kill_lit ex, kill_lit ey]
    simp only [opBin]
    split at h
    · split at h <;> first | exact h.elim | exact kx h
    · exact h.elim
  · exact h.elim

theorem LkT.up {σ' : AS} {x : T} (h : LkT σ x) (hm : ∀ s k, σ.mem s = some k → σ'.mem s = some k) : LkT σ' x := by
  have up : ∀ {s}, σ.mem s ≠ none → σ'.mem s = σ.mem s := fun {s} hs => by
    cases hq : σ.mem s with
    | none => exact absurd hq hs
    | some k => exact hm s k hq
  exact ⟨fun s j e => by have := h.1 s j e; rw [up this]; exact this, fun s i j e => by have := h.2.1 s i j e; rw [up this.1]; exact this, h.2.2⟩
theorem kill_ptr {s : Nat} {x : T} {s' j : Nat} (h : x.kill s = .one (.ptr s' j)) : x = .one (.ptr s' j) ∧ s' ≠ s := by
  cases x with
  | one x =>
    simp only [T.kill, T.one.injEq] at h
    cases x with
    | ptr s2 j2 =>
      by_cases e : s2 = s
      · simp [AV.kill, e] at h
      · simp only [AV.kill, if_neg e, AV.ptr.injEq] at h
        obtain ⟨rfl, rfl⟩ := h
        exact ⟨rfl, e⟩
    | eptr s2 i2 j2 => by_cases e : s2 = s <;> simp [AV.kill, e] at h
    | loc s2 i2 j2 => by_cases e : s2 = s <;> simp [AV.kill, e] at h
    | fn f caps => by_cases e : caps.all (AV.noref s) = true <;> simp [AV.kill, e] at h
    | _ => simp [AV.kill] at h
  | _ => simp [T.kill] at h
theorem kill_eptr {s : Nat} {x : T} {s' i j : Nat} (h : x.kill s = .one (.eptr s' i j)) : x = .one (.eptr s' i j) ∧ s' ≠ s := by
  cases x with
  | one x =>
    simp only [T.kill, T.one.injEq] at h
    cases x with
    | eptr s2 i2 j2 =>
      by_cases e : s2 = s
      · simp [AV.kill, e] at h
      · simp only [AV.kill, if_neg e, AV.eptr.injEq] at h
        obtain ⟨rfl, rfl, rfl⟩ := h
        exact ⟨rfl, e⟩
    | ptr s2 j2 => by_cases e : s2 = s <;> simp [AV.kill, e] at h
    | loc s2 i2 j2 => by_cases e : s2 = s <;> simp [AV.kill, e] at h
    | fn f caps => by_cases e : caps.all (AV.noref s) = true <;> simp [AV.kill, e] at h
    | _ => simp [AV.kill] at h
  | _ => simp [T.kill] at h
theorem kill_bptr {s : Nat} {x : T} {xs : List AV} {j : Nat} (h : x.kill s = .one (.bptr xs j)) : x = .one (.bptr xs j) := by
  cases x with
  | one x =>
    simp only [T.kill, T.one.injEq] at h
    cases x with
    | eptr s2 i2 j2 => by_cases e : s2 = s <;> simp [AV.kill, e] at h
    | ptr s2 j2 => by_cases e : s2 = s <;> simp [AV.kill, e] at h
    | loc s2 i2 j2 => by_cases e : s2 = s <;> simp [AV.kill, e] at h
    | fn f caps => by_cases e : caps.all (AV.noref s) = true <;> simp [AV.kill, e] at h
    | bptr ys k => rw [← h]; rfl
    | _ => simp [AV.kill] at h
  | _ => simp [T.kill] at h
theorem LkT.drop {s : Nat} {k : Blk} {x : T} (h : LkT σ x) : LkT ((σ.drop s).add s k) (x.kill s) := by
  refine ⟨fun s' j e => ?_, fun s' i j e => ?_, fun xs j e => h.2.2 xs j (kill_bptr e)⟩
  · obtain ⟨rfl, hne⟩ := kill_ptr e
    have h1 := h.1 _ _ rfl
    simp only [AS.add, AS.drop, if_neg hne]
    intro e2
    simp at e2
    exact h1 e2
  · obtain ⟨rfl, hne⟩ := kill_eptr e
    obtain ⟨h1, h2⟩ := h.2.1 _ _ _ rfl
    simp only [AS.add, AS.drop, if_neg hne]
    refine ⟨fun e2 => h1 (by simpa using e2), fun rz es he => ?_⟩
    cases hq : σ.mem s' with
    | none => exact absurd hq h1
    | some k' =>
      rw [hq] at he
      simp only [Option.map_some, Option.some.injEq] at he
      cases k' with
      | row p sz es' =>
        cases p
        · simp [Blk.kill] at he
        · simp only [Blk.kill, Blk.row.injEq, true_and] at he
          obtain ⟨rfl, rfl⟩ := he
          exact h2 _ _ hq
      | pin a b =>
        by_cases e : a = s
        · simp [Blk.kill, e] at he
          intro i j y hy
          obtain ⟨_, rfl⟩ := he
          simp [elt] at hy
        · simp [Blk.kill, e] at he
      | _ => simp [Blk.kill] at he

theorem opAppend_inv {site : Nat} {t : TypeId} {x y : T} {K : AS → T → Prop} (h : opAppend E σ site t x y K) :
    ∃ σ1 v, K σ1 v ∧ ((∃ k, k.isPar = false ∧ σ.mem site = none ∧ σ1 = σ.add site k ∧ ∀ (σq : AS) (K' : AS → T → Prop), (∀ s k, σ.mem s = some k → σq.mem s = some k) → σq.mem site = none → K' (σq.add site k) v → opAppend E σq site t x y K') ∨
      ∃ s k, k.isPar = false ∧ (∃ sz es, σ.mem s = some (.row true sz es)) ∧ σ1 = (σ.drop s).add s k ∧ ∀ (σq : AS) (K' : AS → T → Prop), (∀ s k, σ.mem s = some k → σq.mem s = some k) → K' ((σq.drop s).add s k) v → opAppend E σq site t x y K') := by
  unfold opAppend at h
  split at h
  case h_2 => exact h.elim
  rename_i e sz by_ he
  split at h
  case h_2 => exact h.elim
  rename_i zs hz
  split at h
  case isFalse => exact h.elim
  rename_i hzs
  obtain ⟨p2, src, hsrc, src', h⟩ := h
  have hup : ∀ (σq : AS), (∀ s k, σ.mem s = some k → σq.mem s = some k) → opSrc σq.mem sz y p2 src := fun σq hq => by
    unfold opSrc at hsrc ⊢
    split at hsrc <;> try exact hsrc
    · split at hsrc
      · rename_i hs; rw [hq _ _ hs]; exact hsrc
      · exact hsrc.elim
  split at h
  · obtain ⟨h1, h2, h3, h4, h5⟩ := h
    refine ⟨_, _, h5, .inl ⟨_, rfl, h2, rfl, fun σq K' hq hn hK => ?_⟩⟩
    unfold opAppend
    simp only [he, hz, if_pos hzs]
    exact ⟨p2, src, hup σq hq, src', h1, hn, h3, h4, hK⟩
  · split at h
    case h_2 => exact h.elim
    rename_i rz es hs
    split at h
    case isFalse => exact h.elim
    rename_i hrz
    obtain ⟨h1, h2, h3, h4, h5, h6, h7⟩ := h
    refine ⟨_, _, h7, .inr ⟨_, _, rfl, ⟨_, _, hs⟩, rfl, fun σq K' hq hK => ?_⟩⟩
    unfold opAppend
    simp only [he, hz, if_pos hzs, hq _ _ hs]
    refine ⟨p2, src, hup σq hq, src', ?_⟩
    rw [if_pos hrz]
    exact ⟨h1, h2, h3, h4, h5, h6, hK⟩
  · exact h.elim

theorem get_drop {s : Nat} (q : Operand) : (σ.drop s).get q = (σ.get q).kill s := by
  cases q with
  | tmp t => rfl
  | const v =>
    simp only [AS.get, T.ofConst]
    split
    · split
      · simp only [T.kill, List.map_map, T.agg.injEq]
        exact (List.map_congr_left fun x _ => rfl)
      · rfl
    · rfl
    · rfl
  | func f => simp [AS.get, T.kill, AV.kill]
  | global g => rfl
theorem get_add {s : Nat} {k : Blk} (q : Operand) : (σ.add s k).get q = σ.get q := by cases q <;> rfl
theorem put_drop {s : Nat} {d : Option Nat} {v : T} : (σ.put d v).drop s = (σ.drop s).put d (v.kill s) := by
  cases d with
  | none => rfl
  | some d =>
    simp only [AS.put, AS.drop]
    congr 1
    funext k
    split <;> rfl
theorem add_add {s s' : Nat} {k k' : Blk} (h : s ≠ s') : (σ.add s k).add s' k' = (σ.add s' k').add s k := by
  simp only [AS.add]
  congr 1
  funext x
  by_cases h1 : x = s' <;> by_cases h2 : x = s <;> simp [h1, h2]
  · subst h1; subst h2; exact absurd rfl h
  · intro e; exact absurd e.symm h
  · intro e; exact absurd e h
theorem add_drop {s s' : Nat} {k : Blk} (h : s' ≠ s) : (σ.add s' k).drop s = (σ.drop s).add s' (k.kill s) := by
  simp only [AS.add, AS.drop]
  congr 1
  funext x
  by_cases h1 : x = s
  · subst h1; simp [Ne.symm h]
  · by_cases h2 : x = s'
    · subst h2; simp [h1]
    · simp [h1, h2]
theorem put_add {s : Nat} {k : Blk} {d : Option Nat} {v : T} : (σ.put d v).add s k = (σ.add s k).put d v := by cases d <;> rfl
theorem VOk.up {o : Oper} {d : Dec} {m m' : Nat → Option Blk} (hm : ∀ s k, m s = some k → m' s = some k) (h : VOk P E ops o d σ m) : VOk P E ops o d σ m' := by
  cases d with
  | none => exact h
  | some d =>
    obtain ⟨v, news⟩ := d
    obtain ⟨h1, h2, h3, h4⟩ := h
    exact ⟨h1, opn'_up hm h2, h3, fun x hx => hm _ _ (h4 x hx)⟩
theorem Le.trans {m m' m'' : Nat → Option Blk} (h : Le m m') (k : Le m' m'') : Le m m'' := ⟨fun s b hb => k.1 s b (h.1 s b hb), fun s b hp hb => h.2 s b hp (k.2 s b hp hb)⟩

theorem load_add {site : Nat} {k : Blk} {m1 : Nat → Option Blk} {t : TypeId} {x : T} {K : T → News → Prop} (hs : σ.mem site = none) (hl : LkT σ x) (hm : Le (σ.add site k).mem m1) (h : opLoad E m1 K t x) : opLoad E σ.mem K t x := by
  have back : ∀ {s}, σ.mem s ≠ none → m1 s = σ.mem s := fun {s} hn => by
    have hne : s ≠ site := fun e => by subst e; exact hn hs
    cases hq : σ.mem s with
    | none => exact absurd hq hn
    | some b => exact hm.1 s b (by simp [AS.add, hne, hq])
  unfold opLoad at h ⊢
  split at h
  case h_2 => exact h.elim
  split at h
  · rw [back (hl.1 _ _ rfl)] at h; exact h
  · rw [back (hl.2.1 _ _ _ rfl).1] at h; exact h
  · exact h
  · exact h
  · exact h.elim
theorem load_drop {s : Nat} {k : Blk} {m1 : Nat → Option Blk} {t : TypeId} {x v1 : T} {n1 : News} (hl : LkT σ x) (hm : Le ((σ.drop s).add s k).mem m1) (h : opLoad E m1 (fun v n => v = v1 ∧ n = n1) t (x.kill s)) :
    n1 = [] ∧ ∃ v0, v1 = v0.kill s ∧ opLoad E σ.mem (fun v n => v = v0 ∧ n = []) t x := by
  have back : ∀ {s'}, s' ≠ s → ∀ b, σ.mem s' = some b → m1 s' = some (b.kill s) := fun {s'} hne b hb => hm.1 s' _ (by simp [AS.add, AS.drop, hne, hb])
  unfold opLoad at h ⊢
  split at h
  case h_2 => exact h.elim
  rename_i sz g hty
  simp only [hty]
  split at h
  · rename_i s' j hx
    obtain ⟨rfl, hne⟩ := kill_ptr hx
    cases hq : σ.mem s' with
    | none => exact absurd hq (hl.1 _ _ rfl)
    | some b =>
      rw [back hne b hq] at h
      cases b with
      | var xs =>
        simp only [Blk.kill] at h
        split at h
        case isFalse => exact h.elim
        rename_i hle
        obtain ⟨h1, h2⟩ := h
        simp only [hq]
        refine ⟨h2.symm, mkT g ((xs.drop j).take sz), ?_, ?_⟩
        · rw [← h1, ← mkT_kill, List.map_take, List.map_drop]
        · rw [if_pos (by simpa using hle)]; exact ⟨rfl, trivial⟩
      | row p rz es => cases p <;> simp [Blk.kill] at h
      | pin a b => by_cases e : a = s <;> simp [Blk.kill, e] at h
      | _ => simp [Blk.kill] at h
  · rename_i s' i j hx
    obtain ⟨rfl, hne⟩ := kill_eptr hx
    obtain ⟨hn, hcell⟩ := hl.2.1 _ _ _ rfl
    cases hq : σ.mem s' with
    | none => exact absurd hq hn
    | some b =>
      rw [back hne b hq] at h
      cases b with
      | row p rz es =>
        cases p with
        | true =>
          simp only [Blk.kill] at h
          obtain ⟨e, he, h⟩ := h
          split at h
          case isFalse => exact h.elim
          rename_i hle
          obtain ⟨h1, h2⟩ := h
          simp only [hq]
          refine ⟨h2.symm, mkT g ((e.drop j).take sz), ?_, e, he, ?_⟩
          · rw [← h1, ← mkT_kill]
            congr 1
            refine (kills_isCell fun y hy => ?_).symm
            have hy' := List.mem_of_mem_drop (List.mem_of_mem_take hy)
            obtain ⟨q, hq1⟩ := List.getElem?_of_mem hy'
            exact hcell _ _ hq i q y (by unfold elt; rw [he]; exact hq1)
          · rw [if_pos hle]; exact ⟨rfl, trivial⟩
        | false =>
          simp only [Blk.kill] at h
          obtain ⟨e, he, h⟩ := h
          split at h
          case isFalse => exact h.elim
          rename_i hle
          obtain ⟨h1, h2⟩ := h
          rw [List.getElem?_map] at he
          cases he0 : es[i]? with
          | none => rw [he0] at he; cases he
          | some e0 =>
            rw [he0] at he
            simp only [Option.map_some, Option.some.injEq] at he
            subst he
            simp only [hq]
            refine ⟨h2.symm, mkT g ((e0.drop j).take sz), ?_, e0, he0, ?_⟩
            · rw [← h1, ← mkT_kill, List.map_take, List.map_drop]
            · rw [if_pos (by simpa using hle)]; exact ⟨rfl, trivial⟩
      | var xs => simp [Blk.kill] at h
      | pin a b =>
        by_cases e : a = s
        · simp [Blk.kill, e] at h
        · simp [Blk.kill, e] at h
      | _ => simp [Blk.kill] at h
  · rename_i xs j hx
    have := kill_bptr hx
    subst this
    split at h
    case isFalse => exact h.elim
    rename_i hle
    obtain ⟨h1, h2⟩ := h
    refine ⟨h2.symm, mkT g ((xs.drop j).take sz), ?_, ?_⟩
    · rw [← h1, ← mkT_kill]
      congr 1
      conv => lhs; rw [← List.map_id ((xs.drop j).take sz)]
      refine List.map_congr_left fun y hy => ?_
      have hf := hl.2.2 _ _ rfl y (List.mem_of_mem_drop (List.mem_of_mem_take hy))
      cases y <;> first | rfl | cases hf
    · simp [if_pos hle]
  · rename_i b j hx
    have := kill_lit hx
    subst this
    split at h
    case h_2 => exact h.elim
    rename_i cs hcs
    split at h
    case isFalse => exact h.elim
    rename_i hle
    obtain ⟨h1, h2⟩ := h
    refine ⟨h2.symm, mkT g (((cs.drop j).take sz).map .lit), ?_, ?_⟩
    · rw [← h1, ← mkT_kill]
      congr 1
      simp [AV.kill, Function.comp_def]
    · simp [hcs, if_pos hle]
  · exact h.elim

theorem late_add {o : Oper} (hl : lateOp o = true) (hna : ∀ t, o.op ≠ .alloc t) {so site : Nat} {k : Blk} {m1 : Nat → Option Blk} {K : T → News → Prop} (hs : σ.mem site = none) (hlk : ∀ q ∈ o.op.operands, LkT σ (σ.get q)) (hm : Le (σ.add site k).mem m1)
    (h : opn P E so o.op (σ.add site k).get m1 K) : opn P E so o.op σ.get σ.mem K := by
  have e : (σ.add site k).get = σ.get := funext fun q => get_add q
  rw [e] at h
  simp only [lateOp, Bool.and_eq_true] at hl
  obtain ⟨_, hl⟩ := hl
  split at hl
  · rename_i t x ho
    rw [ho] at h ⊢
    exact load_add hs (hlk x (by rw [ho]; simp [Op.operands])) hm h
  · rename_i t ho; exact absurd ho (hna t)
  · rename_i x ho; rw [ho] at h ⊢; exact h
  · rename_i x ho; rw [ho] at h ⊢; exact h
  · rename_i op t x y t' ho; rw [ho] at h ⊢; exact h
  · rename_i t x f ho; rw [ho] at h ⊢; exact h
  · rename_i c ho
    split at hl
    · rename_i hc hx ht
      rw [ho] at h ⊢
      unfold opn at h ⊢
      simpa only [hc, hx, ht] using h
    · cases hl
  · cases hl
theorem late_drop {o : Oper} (hl : lateOp o = true) (hna : ∀ t, o.op ≠ .alloc t) {so s : Nat} {k : Blk} {m1 : Nat → Option Blk} {v1 : T} {n1 : News} (hlk : ∀ q ∈ o.op.operands, LkT σ (σ.get q)) (hm : Le ((σ.drop s).add s k).mem m1)
    (h : opn P E so o.op ((σ.drop s).add s k).get m1 (fun v n => v = v1 ∧ n = n1)) : n1 = [] ∧ ∃ v0, v1 = v0.kill s ∧ opn P E so o.op σ.get σ.mem (fun v n => v = v0 ∧ n = []) := by
  have e : ((σ.drop s).add s k).get = fun q => (σ.get q).kill s := funext fun q => by rw [get_add, get_drop]
  rw [e] at h
  simp only [lateOp, Bool.and_eq_true] at hl
  obtain ⟨_, hl⟩ := hl
  split at hl
  · rename_i t x ho
    rw [ho] at h ⊢
    exact load_drop (hlk x (by rw [ho]; simp [Op.operands])) hm h
  · rename_i t ho; exact absurd ho (hna t)
  · rename_i x ho; rw [ho] at h ⊢; exact ⟨h.2.symm, _, h.1.symm, rfl, rfl⟩
  · rename_i x ho; rw [ho] at h ⊢; exact ⟨h.2.symm, _, h.1.symm, rfl, rfl⟩
  · rename_i op t x y t' ho
    rw [ho] at h ⊢
    replace h : (match (σ.get x).kill s, (σ.get y).kill s with
      | .agg xs, .agg ys => opEqs P (fun v n => v = v1 ∧ n = n1) op t xs ys
      | u, v => opBin E (fun v n => v = v1 ∧ n = n1) op t u v) := h
    show n1 = [] ∧ ∃ v0, v1 = v0.kill s ∧ (match σ.get x, σ.get y with
      | .agg xs, .agg ys => opEqs P (fun v n => v = v0 ∧ n = []) op t xs ys
      | u, v => opBin E (fun v n => v = v0 ∧ n = []) op t u v)
    split at h
    · rename_i xs ys ex ey
      obtain ⟨xs', ex', rfl⟩ := kill_agg ex
      obtain ⟨ys', ey', rfl⟩ := kill_agg ey
      obtain ⟨X, Y, b, h1, h2, h3, h4, h5, h6⟩ := h
      refine ⟨h6.symm, v1, by rw [← h5]; rfl, ?_⟩
      rw [ex', ey']
      exact ⟨X, Y, b, kill_lits h1, kill_lits h2, h3, h4, h5, rfl⟩
    · obtain ⟨v, news, ⟨⟨h1, h2⟩, h3, h4⟩, h5⟩ := opBin_val (bin_drop h)
      subst h1; subst h2; subst h3
      refine ⟨rfl, v, h4.symm, ?_⟩
      split
      · rename_i e1 e2; rw [e1, e2] at h5; exact h5.elim
      · exact h5
  · rename_i t x f ho
    rw [ho] at h ⊢
    replace h : opFieldAddr E (fun v n => v = v1 ∧ n = n1) t f ((σ.get x).kill s) := h
    show n1 = [] ∧ ∃ v0, v1 = v0.kill s ∧ opFieldAddr E (fun v n => v = v0 ∧ n = []) t f (σ.get x)
    unfold opFieldAddr at h ⊢
    split at h
    case h_2 => exact h.elim
    rename_i o' _ _ hf
    simp only [hf]
    split at h
    · rename_i s' j hx
      obtain ⟨hx', hne⟩ := kill_ptr hx
      rw [hx']
      exact ⟨h.2.symm, _, h.1.symm.trans (by simp [T.kill, AV.kill, hne]), rfl, trivial⟩
    · rename_i s' i j hx
      obtain ⟨hx', hne⟩ := kill_eptr hx
      rw [hx']
      exact ⟨h.2.symm, _, h.1.symm.trans (by simp [T.kill, AV.kill, hne]), rfl, trivial⟩
    · rename_i xs j hx
      rw [kill_bptr hx]
      exact ⟨h.2.symm, _, h.1.symm.trans rfl, rfl, trivial⟩
    · exact h.elim
  · rename_i c ho
    split at hl
    case h_2 => cases hl
    rename_i x t hc hx ht
    rw [ho] at h ⊢
    have h' : opLen E (fun v n => v = v1 ∧ n = n1) t ((σ.get x).kill s) := by
      unfold opn at h
      simpa only [hc, hx, ht] using h
    have fin : n1 = [] ∧ ∃ v0, v1 = v0.kill s ∧ opLen E (fun v n => v = v0 ∧ n = []) t (σ.get x) := by
      unfold opLen at h' ⊢
      split at h'
      · rename_i hk hx; rw [kill_lit hx, hk]; exact ⟨h'.2.symm, _, h'.1.symm.trans rfl, rfl, rfl⟩
      · rename_i hk hx; rw [(kill_loc hx).1, hk]; exact ⟨h'.2.symm, _, h'.1.symm.trans rfl, rfl, rfl⟩
      · rename_i hk hx; rw [kill_row hx, hk]; exact ⟨h'.2.symm, _, h'.1.symm.trans rfl, rfl, rfl⟩
      · rename_i hk hx; rw [kill_nn hx, hk]; exact ⟨h'.2.symm, _, h'.1.symm.trans rfl, rfl, rfl⟩
      · rename_i hk hx; rw [kill_lit hx, hk]; exact ⟨h'.2.symm, _, h'.1.symm.trans rfl, rfl, rfl⟩
      · exact h'.elim
    obtain ⟨h1, v0, h2, h3⟩ := fin
    refine ⟨h1, v0, h2, ?_⟩
    unfold opn
    simpa only [hc, hx, ht] using h3
  · cases hl

theorem late_nonews {o : Oper} (hl : lateOp o = true) (hna : ∀ t, o.op ≠ .alloc t) {so : Nat} {m : Nat → Option Blk} {v1 : T} {n1 : News} (h : opn P E so o.op σ.get m (fun v n => v = v1 ∧ n = n1)) : n1 = [] := by
  simp only [lateOp, Bool.and_eq_true] at hl
  obtain ⟨_, hl⟩ := hl
  split at hl
  · rename_i t x ho
    rw [ho] at h
    replace h : opLoad E m (fun v n => v = v1 ∧ n = n1) t (σ.get x) := h
    unfold opLoad at h
    repeat' (split at h)
    all_goals first | exact h.elim | exact h.2.symm | (obtain ⟨e, _, h⟩ := h; split at h; exact h.2.symm; exact h.elim)
  · rename_i t ho; exact absurd ho (hna t)
  · rename_i x ho; rw [ho] at h; exact h.2.symm
  · rename_i x ho; rw [ho] at h; exact h.2.symm
  · rename_i op t x y t' ho
    rw [ho] at h
    replace h : (match σ.get x, σ.get y with
      | .agg xs, .agg ys => opEqs P (fun v n => v = v1 ∧ n = n1) op t xs ys
      | u, v => opBin E (fun v n => v = v1 ∧ n = n1) op t u v) := h
    split at h
    · obtain ⟨X, Y, b, h1, h2, h3, h4, h5, h6⟩ := h; exact h6.symm
    · have h' : opBin E (fun v n => v = v1 ∧ n = n1) op t ((σ.get x).kill 0) ((σ.get y).kill 0) ∨ n1 = [] := by
        unfold opBin at h
        repeat' (split at h)
        all_goals first | exact h.elim | exact .inr h.2.symm | exact .inr h.2.2.symm | (obtain ⟨r, h2, h3⟩ := h; exact .inr h3.2.symm) | (obtain ⟨h1, r, h2, h3⟩ := h; exact .inr h3.2.symm)
      rcases h' with h' | h'
      · obtain ⟨v, news, ⟨⟨h1, h2⟩, h3, h4⟩, h5⟩ := opBin_val (bin_drop h')
        exact h2.symm.trans h3
      · exact h'
  · rename_i t x f ho
    rw [ho] at h
    replace h : opFieldAddr E (fun v n => v = v1 ∧ n = n1) t f (σ.get x) := h
    unfold opFieldAddr at h
    repeat' (split at h)
    all_goals first | exact h.elim | exact h.2.symm
  · rename_i c ho
    split at hl
    case h_2 => cases hl
    rename_i x t hc hx ht
    rw [ho] at h
    have h' : opLen E (fun v n => v = v1 ∧ n = n1) t (σ.get x) := by
      unfold opn at h
      simpa only [hc, hx, ht] using h
    unfold opLen at h'
    split at h' <;> first | exact h'.elim | exact h'.2.symm
  · cases hl
theorem late_eff {o : Oper} (h : lateOp o = true) : isEff E o.op = false ∧ o.guard = none := by
  simp only [lateOp, Bool.and_eq_true, Option.isNone_iff_eq_none] at h
  obtain ⟨hg, h⟩ := h
  refine ⟨?_, hg⟩
  split at h
  case h_7 cl ho =>
    split at h
    · rename_i hc _ _; rw [ho]; simp [isEff, hc]
    · cases h
  all_goals first | (rename_i ho; rw [ho]; rfl) | cases h
theorem app_eff {o : Oper} (h : appOp o = true) : isEff E o.op = true := by
  simp only [appOp, Bool.and_eq_true] at h
  obtain ⟨_, h⟩ := h
  split at h
  · rename_i c ho
    rw [ho]
    split at h
    · rename_i hc; simp [isEff, hc]
    · cases h
  · cases h
theorem Tr.late {i : Nat} {oi : Oper} (hi : ops[i]? = some oi) (hlate : lateOp oi = true) (post : List Nat) : ∀ (pre : List Nat) (σ : AS) (m : Nat → Option Blk), (∀ k ∈ pre, ∃ ok, ops[k]? = some ok ∧ (freeP E ops ok oi = true ∨ (appOp ok = true ∧ ok.apart ops oi = true))) →
    (∀ q ∈ oi.op.operands, LkT σ (σ.get q)) → Le σ.mem m → Tr P E ops Q (pre ++ i :: post) σ m → ∃ m', Le m m' ∧ Tr P E ops Q (i :: (pre ++ post)) σ m'
  | [], σ, m, _, _, _, h => ⟨m, Le.refl m, h⟩
  | k :: pre, σ, m, hf, hlk, hle, h => by
    obtain ⟨ok, hk, hf1⟩ := hf k (by simp)
    obtain ⟨heff, hg⟩ := late_eff (E := E) hlate
    by_cases happ : appOp ok = true ∧ ok.apart ops oi = true
    · obtain ⟨happ, hap⟩ := happ
      obtain ⟨p1, p2, p3⟩ := Oper.apart_spec hap
      have he := app_eff (E := E) happ
      simp only [List.cons_append, Tr] at h
      obtain ⟨o1, h1, h⟩ := h
      rw [hk] at h1; cases h1
      rw [if_pos he] at h
      obtain ⟨hgk, rfl, h⟩ := h
      simp only [appOp, Bool.and_eq_true] at happ
      obtain ⟨hdk, happ⟩ := happ
      split at happ
      case h_2 => cases happ
      rename_i cl hop
      split at happ
      case h_2 => cases happ
      rename_i hcal
      obtain ⟨dk, hdk⟩ := Option.isSome_iff_exists.1 hdk
      rw [hop] at h
      unfold ope at h
      simp only [hcal] at h
      split at h
      case h_2 => rename_i hq; cases hq
      case h_3 => rename_i hq _ _; cases hq
      case h_4 => exact h.elim
      rename_i x y t t' hc1 hx ht
      split at h
      case isFalse => exact h.elim
      rename_i htt
      subst htt
      obtain ⟨σ1, v, ⟨m1, hm1, ht1⟩, hcase⟩ := opAppend_inv h
      have hne : ∀ q ∈ oi.op.operands, q ≠ .tmp dk := fun q hq e => p1 dk hdk (opnd_mem hq e)
      have hg1 : ∀ q ∈ oi.op.operands, (σ1.put ok.dst v).get q = σ1.get q := fun q hq => by rw [hdk]; exact get_put (hne q hq)
      have hlk1 : ∀ q ∈ oi.op.operands, LkT (σ1.put ok.dst v) ((σ1.put ok.dst v).get q) := fun q hq => by
        rw [hg1 q hq]
        rcases hcase with ⟨b, _, hs, rfl, _⟩ | ⟨s, b, _, _, rfl, _⟩
        · rw [get_add]
          refine (hlk q hq).up fun s k hs' => ?_
          rw [put_mem]
          have : s ≠ siteOf ok := fun e => by subst e; rw [hs] at hs'; cases hs'
          simp [AS.add, this, hs']
        · rw [get_add, get_drop]
          have := LkT.drop (s := s) (k := b) (hlk q hq)
          refine this.up fun s' k hs' => ?_
          rw [put_mem]; exact hs'
      obtain ⟨m2, hm2, ht2⟩ := Tr.late hi hlate post pre (σ1.put ok.dst v) m1 (fun k hk => hf k (by simp [hk])) hlk1 hm1 ht1
      simp only [Tr] at ht2
      obtain ⟨o2, h2, ht2⟩ := ht2
      rw [hi] at h2; cases h2
      rw [if_neg (by simp [heff])] at ht2
      obtain ⟨di, hdi, ht2⟩ := ht2
      have hle2 : Le (app oi di (σ1.put ok.dst v)).mem m2 := app_mem_le (Le.trans hm1 hm2) hdi
      cases di with
      | none =>
        have hdi' : skips ops (σ1.put ok.dst v) oi := hdi
        unfold skips at hdi'
        rw [hg] at hdi'
        exact hdi'.elim
      | some dv =>
        obtain ⟨vi, news⟩ := dv
        obtain ⟨_, hop1, hfresh, hnews⟩ := hdi
        have hwant : ∀ τ : AS, wants ops τ oi := fun τ => by unfold wants; rw [hg]; trivial
        have hin : ∀ q ∈ cl.args.toList, q ∈ ok.op.operands := fun q hq => by
          rw [hop]; simp only [Op.operands, Call.operands]; simp at hq ⊢; exact .inr hq
        have hx1 : x ∈ ok.op.operands := hin x (by rw [hx]; simp)
        have hy1 : y ∈ ok.op.operands := hin y (by rw [hx]; simp)
        have key : ∀ (v0 : T) (st : AS), (∀ x ∈ news, x.2.isPar = false) → VOk P E ops oi (some (v0, news)) σ (app oi (some (v0, news)) σ).mem →
            (∀ K' : AS → T → Prop, K' st v → opAppend E (app oi (some (v0, news)) σ) (siteOf ok) t (σ.get x) (σ.get y) K') → st.put ok.dst v = app oi (some (vi, news)) (σ1.put ok.dst v) →
            ∃ m', Le σ.mem m' ∧ Tr P E ops Q (i :: (k :: pre ++ post)) σ m' := by
          intro v0 st hnp hv0 hall est
          have hmono : ∀ s b, σ.mem s = some b → (app oi (some (v0, news)) σ).mem s = some b := fun s b hs => by
            simp only [app, put_mem]; exact adds_mem_old hv0.2.2.1 hs
          refine ⟨(app oi (some (v0, news)) σ).mem, ⟨hmono, fun s b hp hb => ?_⟩, oi, hi, ?_⟩
          · simp only [app, put_mem] at hb
            exact adds_par hp hnp hb
          · rw [if_neg (by simp [heff])]
            refine ⟨some (v0, news), hv0, ok, hk, ?_⟩
            rw [if_pos he]
            refine ⟨hgk, rfl, ?_⟩
            have hgq : ∀ q ∈ ok.op.operands, (app oi (some (v0, news)) σ).get q = σ.get q := fun q hq => get_app' hap (some (v0, news)) q hq
            have hgx := hgq x hx1
            have hgy := hgq y hy1
            rw [hop]
            unfold ope
            simp only [hcal, hx, ht]
            rw [if_pos trivial, hgx, hgy]
            exact hall _ ⟨m2, by rw [est]; exact hle2, by rw [est]; exact ht2⟩
        have hdd : ∀ q, oi.dst = some q → ok.dst ≠ some q := fun q hq e => p2 q e hq
        have hm12 := Le.trans hm1 hm2
        rw [put_mem] at hm12
        by_cases hal : ¬ ∃ t', oi.op = .alloc t'
        · have hna : ∀ t, oi.op ≠ .alloc t := fun t e => hal ⟨t, e⟩
          have hop2 : opn P E (siteOf oi) oi.op σ1.get m2 (fun v' n' => v' = vi ∧ n' = news) := opn'_congr (fun q hq => (hg1 q hq).symm) hop1
          have hv : ∀ v0, opn P E (siteOf oi) oi.op σ.get σ.mem (fun v n => v = v0 ∧ n = []) → VOk P E ops oi (some (v0, [])) σ (app oi (some (v0, [])) σ).mem := fun v0 h0 =>
            ⟨hwant _, by show opn P E (siteOf oi) oi.op σ.get (σ.put oi.dst v0).mem _; rw [put_mem]; exact h0, (fun x hx => by cases hx), (fun x hx => by cases hx)⟩
          rcases hcase with ⟨b, hbp, hs, rfl, hall⟩ | ⟨s, b, hbp, hs, rfl, hall⟩
          · have hop3 := late_add hlate hna hs hlk hm12 hop2
            have hn : news = [] := by
              have hop4 := late_add (K := fun v' n' => v' = vi ∧ n' = news) hlate hna hs hlk hm12 hop2
              exact (late_nonews hlate hna hop4)
            subst hn
            refine key vi ((app oi (some (vi, [])) σ).add (siteOf ok) b) (by simp) (hv vi hop3) (fun K' hK => hall _ K' (fun s k h => by show (σ.put oi.dst vi).mem s = some k; rw [put_mem]; exact h) (by show (σ.put oi.dst vi).mem _ = none; rw [put_mem]; exact hs) hK) ?_
            show (((σ.put oi.dst vi).add (siteOf ok) b).put ok.dst v) = ((σ.add (siteOf ok) b).put ok.dst v).put oi.dst vi
            rw [put_add, put_put hdd]
          · obtain ⟨rfl, v0, rfl, hop3⟩ := late_drop hlate hna hlk hm12 hop2
            refine key v0 (((app oi (some (v0, [])) σ).drop s).add s b) (by simp) (hv v0 hop3) (fun K' hK => hall _ K' (fun s k h => by show (σ.put oi.dst v0).mem s = some k; rw [put_mem]; exact h) hK) ?_
            show ((((σ.put oi.dst v0).drop s).add s b).put ok.dst v) = (((σ.drop s).add s b).put ok.dst v).put oi.dst (v0.kill s)
            rw [put_drop, put_add, put_put hdd]
        · obtain ⟨t', ho⟩ := Classical.not_not.1 hal
          have hop2 : opAlloc E (fun v' n' => v' = vi ∧ n' = news) (siteOf oi) t' := by
            have := hop1; rw [ho] at this; exact this
          unfold opAlloc at hop2
          split at hop2
          case h_2 => exact hop2.elim
          rename_i zs hz
          obtain ⟨rfl, rfl⟩ := hop2
          have hfr1 : σ1.mem (siteOf oi) = none := by
            have := hfresh (siteOf oi, .var (zs.map .lit)) (by simp)
            simpa only [put_mem] using this
          have hkl : ∀ s, (Blk.var (zs.map AV.lit)).kill s = .var (zs.map .lit) := fun s => by
            simp only [Blk.kill, List.map_map]; rfl
          have hv : σ.mem (siteOf oi) = none → VOk P E ops oi (some (.one (.ptr (siteOf oi) 0), [(siteOf oi, .var (zs.map .lit))])) σ (app oi (some (.one (.ptr (siteOf oi) 0), [(siteOf oi, .var (zs.map .lit))])) σ).mem := fun hn =>
            ⟨hwant _, by rw [ho]; show opAlloc E (fun v' n' => v' = T.one (AV.ptr (siteOf oi) 0) ∧ n' = [(siteOf oi, Blk.var (List.map AV.lit zs))]) (siteOf oi) t'; unfold opAlloc; rw [hz]; exact ⟨rfl, rfl⟩, (fun x hx => by rw [List.mem_singleton.1 hx]; exact hn), (fun x hx => by rw [List.mem_singleton.1 hx]; simp [app, put_mem, AS.adds, AS.add])⟩
          have hup : σ.mem (siteOf oi) = none → ∀ s k, σ.mem s = some k → (app oi (some (.one (.ptr (siteOf oi) 0), [(siteOf oi, .var (zs.map .lit))])) σ).mem s = some k := fun hn s k hs => by
            have : s ≠ siteOf oi := fun e => by subst e; rw [hn] at hs; cases hs
            simp [app, put_mem, AS.adds, AS.add, this, hs]
          rcases hcase with ⟨b, hbp, hs, rfl, hall⟩ | ⟨s, b, hbp, hs, rfl, hall⟩
          · have hne : siteOf oi ≠ siteOf ok := fun e => by rw [e] at hfr1; simp [AS.add] at hfr1
            have hn : σ.mem (siteOf oi) = none := by simpa [AS.add, hne] using hfr1
            refine key (.one (.ptr (siteOf oi) 0)) ((app oi (some (.one (.ptr (siteOf oi) 0), [(siteOf oi, .var (zs.map .lit))])) σ).add (siteOf ok) b) (by simp [Blk.isPar]) (hv hn) (fun K' hK => hall _ K' (hup hn) (by simp [app, put_mem, AS.adds, AS.add, Ne.symm hne, hs]) hK) ?_
            show ((((σ.add (siteOf oi) (.var (zs.map .lit))).put oi.dst _).add (siteOf ok) b).put ok.dst v) = (((σ.add (siteOf ok) b).put ok.dst v).add (siteOf oi) (.var (zs.map .lit))).put oi.dst _
            rw [put_add, put_add, put_put hdd, add_add hne]
          · obtain ⟨sz, es, hs⟩ := hs
            have hne : siteOf oi ≠ s := fun e => by rw [e] at hfr1; simp [AS.add] at hfr1
            have hn : σ.mem (siteOf oi) = none := by simpa [AS.add, AS.drop, hne] using hfr1
            refine key (.one (.ptr (siteOf oi) 0)) (((app oi (some (.one (.ptr (siteOf oi) 0), [(siteOf oi, .var (zs.map .lit))])) σ).drop s).add s b) (by simp [Blk.isPar]) (hv hn) (fun K' hK => hall _ K' (hup hn) hK) ?_
            show (((((σ.add (siteOf oi) (.var (zs.map .lit))).put oi.dst _).drop s).add s b).put ok.dst v) = ((((σ.drop s).add s b).put ok.dst v).add (siteOf oi) (.var (zs.map .lit))).put oi.dst _
            rw [put_drop, put_add, put_add, put_put hdd, add_drop hne, hkl, add_add hne]
            simp [T.kill, AV.kill, hne]
    · have hfree := hf1.resolve_right happ
      have he : isEff E ok.op = false := by
        simp only [freeP, Bool.and_eq_true, Bool.not_eq_true'] at hfree
        exact hfree.1.1
      have hap : ok.apart ops oi = true := by
        simp only [freeP, Bool.and_eq_true, Bool.not_eq_true'] at hfree
        exact hfree.2
      simp only [List.cons_append, Tr] at h
      obtain ⟨o1, h1, h⟩ := h
      rw [hk] at h1; cases h1
      rw [if_neg (by simp [he])] at h
      obtain ⟨d, hd, h⟩ := h
      obtain ⟨m', hm', ht⟩ := Tr.late hi hlate post pre (app ok d σ) m (fun k hk => hf k (by simp [hk])) (fun q hq => by
        rw [get_app hap d q hq]
        refine (hlk q hq).up fun s b hs => ?_
        cases d with
        | none => simpa only [app, put_mem] using hs
        | some d => obtain ⟨v, news⟩ := d; simp only [app, put_mem]; exact adds_mem_old hd.2.2.1 hs) (app_mem_le hle hd) h
      exact ⟨m', hm', Tr.swap hk hi hfree ⟨ok, hk, by rw [if_neg (by simp [he])]; exact ⟨d, hd.up hm'.1, ht⟩⟩⟩
end
end Go.Proofs.YtjajnladldchcaaDoor
namespace Go.Proofs.YtjajnladldchcaaDoor
open Go.RowKit
set_option linter.unusedSimpArgs false
set_option linter.unusedVariables false

noncomputable def findO (id : Nat) (l : List (Nat × OT)) : Option OT :=
  List.rec (motive := fun _ => Option OT) .none (fun x _ ih => if x.1 = id then some x.2 else ih) l
noncomputable def pickL (ops : List Oper) (is : List Nat) : List Oper :=
  List.rec (motive := fun _ => List Oper) [] (fun i _ ih => match ops[i]? with | some o => o :: ih | none => []) is
def topoB (ops : Array Oper) : List Nat → List Nat → Bool
  | [], _ => true
  | i :: l, seen => (match ops[i]? with
    | some o => o.after.toList.all fun e => !Region.binds .any e || seen.contains e.on
    | none => false) && (!seen.contains i && topoB ops l (i :: seen))
def okPair (E : Tab) (ops : Array Oper) (b : Array Nat) (k i : Nat) : Bool :=
  (b.getD i 0).testBit k || match ops[k]?, ops[i]? with
    | some ok, some oi => freeP E ops ok oi || (earlyOp ok && isEff E oi.op || (appOp ok && (lateOp oi && ok.apart ops oi)))
    | _, _ => false
def pairsB (E : Tab) (ops : Array Oper) (b : Array Nat) : List Nat → Bool
  | [] => true
  | k :: l => (l.all fun i => okPair E ops b k i) && pairsB E ops b l
def freeB (ops : Array Oper) (b : Array Nat) (dn ds : List Nat) : Bool :=
  ds.all fun x => match ops[x]? with
    | some ox => !earlyOp ox || (List.range ops.size).all fun j => j == x || (dn.contains j || ((b.getD x 0).testBit j || match ops[j]? with
      | some oj => (oj.after.any fun e => Region.binds .any e && e.on == x) || ox.apart ops oj
      | none => true))
    | none => false
def ordOk (E : Tab) (ops : Array Oper) (dn ds : List Nat) : Bool :=
  let b := masks ops.toList #[]
  Region.noSelect ops && (topoB ops ds dn && ((List.range ops.size).all (fun i => ds.contains i || dn.contains i) && (pairsB E ops b ds && freeB ops b dn ds)))
def OT.isAlt : OT → Bool
  | .alt _ _ _ => true
  | .none => true
  | _ => false
def OT.isNone : OT → Bool
  | .none => true
  | _ => false
def okT (E : Tab) (ops : Array Oper) : OT → List Nat → Array Bool → List Nat → Bool
  | .seq ds, dn, listed, _ => ordOk E ops dn ds && decide (ds.length ≤ (left ops listed).length)
  | .take i t, dn, listed, _ => Region.free .any ops listed i && ((Region.ready .any ops listed).contains i && ((match ops[i]? with | some o => earlyOp o | none => false) && (!t.isNone && okT E ops t (i :: dn) (listed.setIfInBounds i true) (Region.ready .any ops (listed.setIfInBounds i true)))))
  | .alt i t rest, dn, listed, need => (Region.ready .any ops listed).contains i && ((!t.isNone && okT E ops t (i :: dn) (listed.setIfInBounds i true) (Region.ready .any ops (listed.setIfInBounds i true))) && (rest.isAlt && okT E ops rest dn listed (need.filter fun k => k != i)))
  | .none, _, _, need => need.isEmpty
def treeOk (E : Tab) (ops : Array Oper) (t : OT) : Bool :=
  Region.noSelect ops && (!t.isNone && okT E ops t [] (Array.replicate ops.size false) (Region.ready .any ops (Array.replicate ops.size false)))
noncomputable def vcT (P : Program) (E : Tab) (ops : Array Oper) (t : OT) : AS → (AS → Prop) → Prop :=
  OT.rec (motive := fun _ => AS → (AS → Prop) → Prop)
    (fun ds σ Q => vcOps P E ops (pickL ops.toList ds) σ Q)
    (fun i _ ih σ Q => vcOps P E ops (pickL ops.toList [i]) σ (fun σ' => ih σ' Q))
    (fun i _ _ it ir σ Q => vcOps P E ops (pickL ops.toList [i]) σ (fun σ' => it σ' Q) ∧ ir σ Q)
    (fun _ _ => True) t

def vcReg (P : Program) (E : Tab) (id : Nat) (ops : Array Oper) (σ : AS) (Kn : AS → Prop) : Prop := match findO id E.ord with
  | some t => vcT P E ops t σ Kn
  | none => vcOps P E ops ops.toList σ Kn
def vcCode (P : Program) (E : Tab) (x : Code) : (AS → Prop) → (Nat → AS → Prop) → (AS → Prop) → AS → Prop :=
  Code.rec (motive := fun _ => (AS → Prop) → (Nat → AS → Prop) → (AS → Prop) → AS → Prop)
    (fun Kn _ _ σ => Kn σ)
    (fun id ops _ Kn _ _ σ => match findO (id + 1000000) E.ord with
      | some _ => ∃ σ1, Weak σ σ1 ∧ vcReg P E id ops σ1 Kn
      | none => vcReg P E id ops σ Kn)
    (fun _ _ ix iy Kn Ke Kr σ => ix (fun σ => iy Kn Ke Kr σ) Ke Kr σ)
    (fun c _ _ ix iy Kn Ke Kr σ => match σ.get c with
      | .one (.lit (.bool b)) => match b with
        | true => ix Kn Ke Kr σ
        | false => iy Kn Ke Kr σ
      | _ => False)
    (fun id _ ix Kn Ke Kr σ => ix Kn (fun id' σ => if id' = id then Kn σ else Ke id' σ) Kr σ)
    (fun _ ix _ Ke Kr σ => ∃ I : AS → Nat → Prop, (∃ σ' k, Weak σ σ' ∧ I σ' k) ∧ ∀ σ k, I σ k → ∃ σ1, Weak σ σ1 ∧ ix (fun σ' => ∃ σ'' k', Weak σ' σ'' ∧ k' < k ∧ I σ'' k') Ke Kr σ1)
    (fun _ _ _ _ _ _ _ _ _ _ => False)
    (fun id _ Ke _ σ => Ke id σ)
    (fun _ _ _ _ _ _ => False)
    (fun _ _ _ _ _ => False)
    (fun _ _ _ _ _ => False)
    (fun _ _ Kr σ => Kr σ)
    (fun _ _ _ _ _ => False) x

noncomputable def okCode (E : Tab) (n : Nat) : Code → Bool
  | .region id ops draw => (ops.toList.all fun o => (match o.dst with
    | some d => decide (d < n)
    | none => true) && o.op.operands.all fun x => match x with
      | .tmp t => decide (t < n)
      | _ => true) && (match findO id E.ord with
      | some t => draw && treeOk E ops t
      | none => !draw || regOk E ops)
  | .seq x y => okCode E n x && okCode E n y
  | .cond q x y => (match q with
    | .tmp t => decide (t < n)
    | _ => true) && (okCode E n x && okCode E n y)
  | .block _ x => okCode E n x
  | .loop x => okCode E n x
  | _ => true

section
variable {P : Program} {w0 w : World} {L : Nat → Prop} {n : Nat} {σ : AS} {a : Act} {c : Ctx} {F : Nat → Nat → Prop}


theorem pick_map {ops : Array Oper} {ls : List Nat} (h : ∀ i ∈ ls, i < ops.size) : ls.map (fun i => ops[i]?) = (pickL ops.toList ls).map some := by
  induction ls with
  | nil => rfl
  | cons i ls ih =>
    have hi := h i (by simp)
    have e : pickL ops.toList (i :: ls) = match ops.toList[i]? with | some o => o :: pickL ops.toList ls | none => [] := rfl
    rw [e]
    simp only [List.map_cons, Array.getElem?_toList, Array.getElem?_eq_getElem hi]
    rw [ih fun j hj => h j (by simp [hj])]

theorem early_eff {E : Tab} {o : Oper} (h : earlyOp o = true) : isEff E o.op = false ∧ o.guard = none := by
  unfold earlyOp at h
  simp only [Bool.and_eq_true, Option.isNone_iff_eq_none] at h
  refine ⟨?_, h.1⟩
  have h := h.2
  split at h
  case h_9 cl ho =>
    split at h
    · rename_i hc _ _; rw [ho]; simp [isEff, hc]
    · cases h
  all_goals first | (rename_i ho; rw [ho]; rfl) | cases h

def lft (ds : List Nat) (listed : Array Bool) : List Nat := ds.filter fun i => !listed.getD i true

theorem lft_split {ops : Array Oper} {listed : Array Bool} (hl : listed.size = ops.size) {i : Nat} (hi : i < ops.size) (hu : listed.getD i true = false) : ∀ {ds : List Nat}, ds.Nodup → i ∈ ds →
    ∃ pre post, lft ds listed = pre ++ i :: post ∧ (∀ k ∈ pre, listed.getD k true = false) ∧ lft ds (listed.setIfInBounds i true) = pre ++ post
  | d :: ds, hn, hm => by
    rw [List.nodup_cons] at hn
    by_cases e : d = i
    · subst e
      have hset : (listed.setIfInBounds d true).getD d true = true := by simp [hl, hi]
      refine ⟨[], lft ds listed, ?_, by simp, ?_⟩
      · unfold lft; rw [List.filter_cons_of_pos (by simp only [hu]; rfl)]; rfl
      · unfold lft
        rw [List.filter_cons_of_neg (by simp only [hset]; decide)]
        refine List.filter_congr fun k hk => ?_
        rw [getD_set_ne true (fun e => hn.1 (by rw [e]; exact hk))]
    · have hm' : i ∈ ds := by cases hm with
        | head => exact absurd rfl e
        | tail _ h => exact h
      obtain ⟨pre, post, h1, h2, h3⟩ := lft_split hl hi hu hn.2 hm'
      cases hq : listed.getD d true with
      | true =>
        refine ⟨pre, post, ?_, h2, ?_⟩
        · rw [← h1]; unfold lft; rw [List.filter_cons_of_neg (by simp only [hq]; decide)]
        · rw [← h3]; unfold lft; rw [List.filter_cons_of_neg (by rw [getD_set_ne true (fun e' => e e'.symm)]; simp only [hq]; decide)]
      | false =>
        refine ⟨d :: pre, post, ?_, fun k hk => ?_, ?_⟩
        · rw [List.cons_append, ← h1]; unfold lft; rw [List.filter_cons_of_pos (by simp only [hq]; rfl)]
        · cases hk with
          | head => exact hq
          | tail _ hk => exact h2 k hk
        · rw [List.cons_append, ← h3]; unfold lft; rw [List.filter_cons_of_pos (by rw [getD_set_ne true (fun e' => e e'.symm)]; simp only [hq]; rfl)]

theorem topo_spec {ops : Array Oper} : ∀ {ds seen : List Nat}, topoB ops ds seen = true → ds.Nodup ∧ (∀ i ∈ ds, i ∉ seen ∧ i < ops.size) ∧
    ∀ pre i post, ds = pre ++ i :: post → ∀ (o : Oper) (e : Edge), ops[i]? = some o → e ∈ o.after.toList → Region.binds .any e = true → e.on ∈ pre ∨ e.on ∈ seen
  | [], seen, _ => ⟨List.nodup_nil, by simp, fun pre i post h => by simp at h⟩
  | d :: ds, seen, h => by
    simp only [topoB, Bool.and_eq_true, Bool.not_eq_true'] at h
    obtain ⟨h1, h2, h3⟩ := h
    obtain ⟨i1, i2, i3⟩ := topo_spec h3
    refine ⟨List.nodup_cons.2 ⟨fun hm => (i2 d hm).1 (by simp), i1⟩, fun i hi => ?_, fun pre i post he o e ho hem hb => ?_⟩
    · cases hi with
      | head =>
        refine ⟨by simpa using h2, ?_⟩
        cases hq : ops[d]? with
        | none => rw [hq] at h1; cases h1
        | some o => exact (Array.getElem?_eq_some_iff.1 hq).1
      | tail _ hi => exact ⟨fun hm => (i2 i hi).1 (by simp [hm]), (i2 i hi).2⟩
    · cases pre with
      | nil =>
        simp at he
        obtain ⟨rfl, rfl⟩ := he
        rw [ho] at h1
        simp only [List.all_eq_true] at h1
        have := h1 e hem
        simp [hb] at this
        exact .inr this
      | cons p pre =>
        simp only [List.cons_append, List.cons.injEq] at he
        obtain ⟨rfl, he⟩ := he
        rcases i3 pre i post he o e ho hem hb with h | h
        · exact .inl (by simp [h])
        · cases h with
          | head => exact .inl (by simp)
          | tail _ h => exact .inr h

theorem pairs_spec {E : Tab} {ops : Array Oper} {b : Array Nat} : ∀ {ds : List Nat}, pairsB E ops b ds = true → ds.Pairwise fun k i => okPair E ops b k i = true
  | [], _ => List.Pairwise.nil
  | k :: l, h => by
    simp only [pairsB, Bool.and_eq_true, List.all_eq_true] at h
    exact List.Pairwise.cons h.1 (pairs_spec h.2)

theorem ord_ok {E : Tab} {HH : AS → Act → World → Prop} (S : Sim P E n HH) {ops : Array Oper} {Q : AS → Prop} {QQ : Exit → Act → World → Prop} (hp : ∀ c a w, ¬ QQ (.panic c) a w) {dn ds : List Nat} (hord : ordOk E ops dn ds = true)
    (hQ : ∀ σ' a' w', HH σ' a' w' → Q σ' → QQ .normal a' w') (hn : OpsIn n ops) :
    ∀ (fuel : Nat) {listed : Array Bool} {σ : AS} {a : Act} {w : World} {m : Nat → Option Blk}, listed.size = ops.size → (∀ i ∈ dn, listed.getD i false = true) → (lft ds listed).length ≤ fuel → Shut ops listed → HH σ a w → Le σ.mem m → Tr P E ops Q (lft ds listed) σ m → wpAny P .any ops QQ fuel listed a w := by
  unfold ordOk at hord
  simp only [Bool.and_eq_true, List.all_eq_true, List.mem_range] at hord
  obtain ⟨hsel, htopo, hall, hpairs, hfree⟩ := hord
  obtain ⟨hnd, hlt, hedge⟩ := topo_spec htopo
  have hpw := pairs_spec hpairs
  have hanc : ∀ i k, ((masks ops.toList #[]).getD i 0).testBit k = true → Anc ops k i := fun i k h => masks_ok ops.toList #[] (fun j => by simp) (fun i k hk => by simp at hk) i k h
  have hmem' : ∀ {i : Nat} {listed : Array Bool}, listed.size = ops.size → (∀ i ∈ dn, listed.getD i false = true) → (i ∈ lft ds listed ↔ i < ops.size ∧ listed.getD i true = false) := fun {i listed} hl hdn => by
    simp only [lft, List.mem_filter, Bool.not_eq_true']
    refine ⟨fun h => ⟨(hlt i h.1).2, h.2⟩, fun h => ⟨?_, h.2⟩⟩
    have := hall i h.1
    simp only [Bool.or_eq_true, List.contains_iff_mem] at this
    rcases this with h1 | h1
    · exact h1
    · have h2 := hdn i h1
      rw [← getD_true_false (by omega), h.2] at h2
      cases h2
  intro fuel
  induction fuel with
  | zero =>
    intro listed σ a w m hl hdn hf hs h hm ht
    have hmem : ∀ {i : Nat}, i ∈ lft ds listed ↔ i < ops.size ∧ listed.getD i true = false := hmem' hl hdn
    have hleft : lft ds listed = [] := List.eq_nil_of_length_eq_zero (by omega)
    refine ⟨?_, by rw [hleft] at ht; exact hQ _ _ _ h ht⟩
    cases hr : Region.ready .any ops listed with
    | nil => rfl
    | cons i l =>
      exfalso
      have hi : i ∈ Region.ready .any ops listed := by rw [hr]; simp
      rw [mem_ready] at hi
      obtain ⟨hu, o, ho, _⟩ := hi
      have : i ∈ lft ds listed := hmem.2 ⟨(Array.getElem?_eq_some_iff.1 ho).1, hu⟩
      rw [hleft] at this
      cases this
  | succ fuel ih =>
    intro listed σ a w m hl hdn hf hs h hm ht
    have hmem : ∀ {i : Nat}, i ∈ lft ds listed ↔ i < ops.size ∧ listed.getD i true = false := hmem' hl hdn
    cases hq : lft ds listed with
    | nil =>
      have hr : Region.ready .any ops listed = [] := by
        cases hr : Region.ready .any ops listed with
        | nil => rfl
        | cons i l =>
          exfalso
          have hi : i ∈ Region.ready .any ops listed := by rw [hr]; simp
          rw [mem_ready] at hi
          obtain ⟨hu, o, ho, _⟩ := hi
          have : i ∈ lft ds listed := hmem.2 ⟨(Array.getElem?_eq_some_iff.1 ho).1, hu⟩
          rw [hq] at this
          cases this
      rw [hq] at ht
      exact wpAny_done hr (hQ _ _ _ h ht) _
    | cons d rest =>
      have hd : d ∈ lft ds listed := by rw [hq]; simp
      obtain ⟨hdl, hdu⟩ := hmem.1 hd
      have hod : ops[d]? = some ops[d] := by simp [hdl]
      generalize ops[d] = od at hod
      have hdm : d ∈ ds := (List.mem_filter.1 hd).1
      obtain ⟨pre0, post0, hds⟩ := List.append_of_mem hdm
      have hpre0 : ∀ k ∈ pre0, listed.getD k true = true := fun k hk => by
        cases hv : listed.getD k true with
        | true => rfl
        | false =>
          exfalso
          have e1 : lft ds listed = lft pre0 listed ++ lft (d :: post0) listed := by rw [hds]; simp [lft]
          have hk' : k ∈ lft pre0 listed := List.mem_filter.2 ⟨hk, by simp only [hv]; rfl⟩
          rw [hq] at e1
          cases hz : lft pre0 listed with
          | nil => rw [hz] at hk'; cases hk'
          | cons p l =>
            rw [hz, List.cons_append] at e1
            have e2 : d = p := (List.cons.injEq .. ▸ e1).1
            have hp' : p ∈ pre0 := (List.mem_filter.1 (by rw [hz]; simp : p ∈ lft pre0 listed)).1
            rw [hds, List.nodup_append] at hnd
            exact hnd.2.2 p hp' d (by simp) e2.symm
      have hdready : ∀ e ∈ od.after, Region.binds .any e = true → listed.getD e.on false = true := fun e he hb => by
        rcases hedge pre0 d post0 hds od e hod (by simpa using he) hb with h1 | h1
        · have h2 := hpre0 e.on h1
          have h3 : e.on < ops.size := (hlt e.on (by rw [hds]; simp [h1])).2
          rwa [getD_true_false (by omega)] at h2
        · exact hdn e.on h1
      have hdr : d ∈ Region.ready .any ops listed := mem_ready.2 ⟨hdu, od, hod, hdready⟩
      have next : ∀ {i : Nat} {oi : Oper}, ops[i]? = some oi → listed.getD i true = false → (∀ e ∈ oi.after, Region.binds .any e = true → listed.getD e.on false = true) → ∃ pre post, lft ds listed = pre ++ i :: post ∧ (∀ k ∈ pre, listed.getD k true = false) ∧ lft ds (listed.setIfInBounds i true) = pre ++ post ∧ Shut ops (listed.setIfInBounds i true) ∧ (lft ds (listed.setIfInBounds i true)).length ≤ fuel := by
        intro i oi hoi hu hpre
        have hi := (Array.getElem?_eq_some_iff.1 hoi).1
        obtain ⟨pre, post, h1, h2, h3⟩ := lft_split hl hi hu hnd (List.mem_filter.1 (hmem.2 ⟨hi, hu⟩)).1
        refine ⟨pre, post, h1, h2, h3, fun j o e hj ho he hb => ?_, by rw [h3]; rw [h1] at hf; simp at hf ⊢; omega⟩
        by_cases e1 : i = j
        · subst e1
          rw [hoi] at ho; cases ho
          exact getD_set_true (hpre e (by simpa using he) hb)
        · rw [getD_set_ne true e1] at hj
          exact getD_set_true (hs j o e hj ho he hb)
      by_cases hearly : earlyOp od = true
      · -- it is taken first
        obtain ⟨heff, hg⟩ := early_eff (E := E) hearly
        obtain ⟨pre, post, h1, h2, h3, hs', hf'⟩ := next hod hdu hdready
        have hpre : pre = [] := by
          cases pre with
          | nil => rfl
          | cons p pre =>
            exfalso
            rw [hq] at h1
            simp only [List.cons_append, List.cons.injEq] at h1
            have hnd' : (lft ds listed).Nodup := List.Pairwise.filter _ hnd
            rw [hq, h1.2, List.nodup_cons] at hnd'
            exact hnd'.1 (by simp)
        subst hpre
        rw [h1] at ht
        simp only [List.nil_append, Tr] at ht
        obtain ⟨o, ho, ht⟩ := ht
        rw [hod] at ho; cases ho
        rw [if_neg (by simp [heff])] at ht
        obtain ⟨dd, hdd, ht⟩ := ht
        cases dd with
        | none =>
          have hdd' : skips ops σ od := hdd
          unfold skips at hdd'
          rw [hg] at hdd'
          exact hdd'.elim
        | some dv =>
          obtain ⟨v, news⟩ := dv
          obtain ⟨_, hop, _, _⟩ := hdd
          have hsup : Sup σ m := ⟨fun s k hs => by
            cases hq : σ.mem s with
            | none => exact .inl rfl
            | some k' => have := hm.1 s k' hq; rw [hs] at this; cases this; exact .inr rfl, hm.2⟩
          obtain ⟨v', V, ⟨rfl, hnews⟩, hrun, hV⟩ := S.first (hn d od hod) h hsup hearly hop
          subst hnews
          refine wpAny_first hod (Region.noSelect_spec hsel) (fun c a w hq => (hp _ _ _ hq).elim) fuel listed a w ?_ hdr (v := V) (.inl ⟨by simp [Region.wanted, hg], hrun⟩) ?_
          · intro j oj hj hne hun hno
            have hfd : _ := List.all_eq_true.1 hfree d hdm
            simp only [hod, hearly, Bool.not_true, Bool.false_or, List.all_eq_true, List.mem_range] at hfd
            have := hfd j (Array.getElem?_eq_some_iff.1 hj).1
            simp only [hj, Bool.or_eq_true, beq_iff_eq, hne, false_or] at this
            rcases this with h4 | h4 | h4 | h4
            · exfalso
              have h5 := hdn j (by simpa using h4)
              rw [← getD_true_false (by rw [hl]; exact (Array.getElem?_eq_some_iff.1 hj).1), hun] at h5
              cases h5
            · exfalso
              have := (hanc d j h4).listed hl hs (fun o e ho he hb => by rw [hod] at ho; cases ho; exact hdready e (by simpa using he) hb)
              rw [← getD_true_false (by rw [hl]; exact (Array.getElem?_eq_some_iff.1 hj).1), hun] at this
              cases this
            · exfalso
              obtain ⟨e, he, hb⟩ := Array.any_eq_true'.1 h4
              simp only [Bool.and_eq_true, beq_iff_eq] at hb
              exact hno e he hb.1 hb.2
            · exact h4
          · refine ih (by simpa using hl) (fun i hi => getD_set_true (hdn i hi)) hf' hs' hV (m := m) ?_ (by rw [h3]; exact ht)
            rw [put_mem]; exact hm
      · refine ⟨fun hr => (by rw [hr] at hdr; cases hdr), fun i hi => ?_⟩
        rw [mem_ready] at hi
        obtain ⟨hu, oi, hoi, hpre⟩ := hi
        obtain ⟨pre, post, h1, h2, h3, hs', hf'⟩ := next hoi hu hpre
        have hpw' : (lft ds listed).Pairwise fun k i => okPair E ops (masks ops.toList #[]) k i = true := List.Pairwise.filter _ hpw
        have one : ∀ k ∈ pre, ∃ ok, ops[k]? = some ok ∧ (freeP E ops ok oi = true ∨ (earlyOp ok = true ∧ isEff E oi.op = true) ∨ (appOp ok = true ∧ lateOp oi = true ∧ ok.apart ops oi = true)) := fun k hk => by
          have hkl : k ∈ lft ds listed := by rw [h1]; simp [hk]
          obtain ⟨k1, k2⟩ := hmem.1 hkl
          have hok' : ops[k]? = some ops[k] := by simp [k1]
          refine ⟨ops[k], hok', ?_⟩
          rw [h1, List.pairwise_append] at hpw'
          have := hpw'.2.2 k hk i (by simp)
          unfold okPair at this
          rw [hok', hoi] at this
          simp only [Bool.or_eq_true, Bool.and_eq_true] at this
          rcases this with h4 | h4
          · exfalso
            have := (hanc i k h4).listed hl hs (fun o e ho he hb => by rw [hoi] at ho; cases ho; exact hpre e (by simpa using he) hb)
            rw [← getD_true_false (by omega), k2] at this
            cases this
          · exact h4
        have hfr : ∃ m', Le m m' ∧ Tr P E ops Q (i :: (pre ++ post)) σ m' := by
          rw [h1] at ht
          by_cases hlate : lateOp oi = true
          · refine Tr.late hoi hlate post pre σ m (fun k hk => ?_) (fun q _ => S.there h q) hm ht
            obtain ⟨ok, hok', h4⟩ := one k hk
            refine ⟨ok, hok', ?_⟩
            rcases h4 with h4 | h4 | h4
            · exact .inl h4
            · rw [(late_eff (E := E) hlate).1] at h4; cases h4.2
            · exact .inr ⟨h4.1, h4.2.2⟩
          · have one' : ∀ k ∈ pre, ∃ ok, ops[k]? = some ok ∧ (freeP E ops ok oi = true ∨ (earlyOp ok = true ∧ isEff E oi.op = true)) := fun k hk => by
              obtain ⟨ok, hok', h4⟩ := one k hk
              exact ⟨ok, hok', h4.imp_right fun h5 => h5.resolve_right fun h6 => hlate h6.2.1⟩
            refine ⟨m, Le.refl m, Tr.front hoi post pre σ (fun k hk => ?_) ht⟩
            have hdp : d ∈ pre := by
              cases pre with
              | nil => cases hk
              | cons p pre =>
                rw [hq] at h1
                simp only [List.cons_append, List.cons.injEq] at h1
                rw [h1.1]; simp
            obtain ⟨ok, hok', h4⟩ := one' d hdp
            rw [hod] at hok'; cases hok'
            have hne : isEff E oi.op = false := by
              rcases h4 with h4 | h4
              · simp only [freeP, Bool.and_eq_true, Bool.not_eq_true'] at h4
                exact h4.1.2
              · exact absurd h4.1 hearly
            obtain ⟨ok, hok', h5⟩ := one' k hk
            exact ⟨ok, hok', h5.resolve_right fun h => by rw [hne] at h; cases h.2⟩
        obtain ⟨m', hmm', ht'⟩ := hfr
        replace hm := Le.trans hm hmm'
        simp only [Tr] at ht'
        obtain ⟨o, ho, ht'⟩ := ht'
        rw [hoi] at ho; cases ho
        split at ht'
        · rename_i heff
          obtain ⟨hg, rfl, ht'⟩ := ht'
          unfold wpOp
          simp only [hoi]
          rw [if_pos (by simp [Region.wanted, hg])]
          exact .inl (S.eff (hn i oi hoi) h ht' _ _ fun σ1 v V w' ⟨m', hm', k1⟩ k3 => ih (by simpa using hl) (fun i hi => getD_set_true (hdn i hi)) hf' hs' k3 hm' (by rw [h3]; exact k1))
        · obtain ⟨d', hd', ht'⟩ := ht'
          exact S.quiet hn h hm hoi hd' fun a' w' h' => ih (by simpa using hl) (fun i hi => getD_set_true (hdn i hi)) hf' hs' h' (app_mem_le hm hd') (by rw [h3]; exact ht')

theorem one_ok {E : Tab} {HH : AS → Act → World → Prop} (S : Sim P E n HH) {ops : Array Oper} {Q : AS → Prop} {K : Act → World → Prop} {QQ : Exit → Act → World → Prop} (hn : OpsIn n ops) {i : Nat} (hi : i < ops.size) {σ : AS} {a : Act} {w : World}
    (hH : HH σ a w) (h : vcOps P E ops (pickL ops.toList [i]) σ Q) (hK : ∀ σ' a' w', HH σ' a' w' → Q σ' → K a' w') : wpOp P ops QQ i K a w := by
  obtain ⟨m, hm, ht⟩ := tr_of_vc (E := E) (ops := ops) (Q := Q) _ [i] σ (pick_map fun k hk => by rw [List.mem_singleton] at hk; omega) h
  obtain ⟨o, ho, ht⟩ := ht
  split at ht
  · obtain ⟨hg, rfl, ht⟩ := ht
    unfold wpOp
    simp only [ho]
    rw [if_pos (by simp [Region.wanted, hg])]
    exact .inl (S.eff (hn i o ho) hH ht _ _ fun σ1 v V w' ⟨m', hm', h1⟩ h3 => hK _ _ _ h3 h1)
  · obtain ⟨d, hd, ht⟩ := ht
    exact S.quiet hn hH hm ho hd fun a' w' h' => hK _ _ _ h' ht

theorem node_ok {E : Tab} {ops : Array Oper} {QQ : Exit → Act → World → Prop} {t : OT} {dn : List Nat} {listed : Array Bool} (hl : listed.size = ops.size) (hnn : t.isNone = false) (hok : okT E ops t dn listed (Region.ready .any ops listed) = true)
    (h : (t.isAlt = false → wpAny P .any ops QQ (left ops listed).length listed a w) ∧ (t.isAlt = true → ∀ i ∈ Region.ready .any ops listed, wpOp P ops QQ i (wpAny P .any ops QQ ((left ops listed).length - 1) (listed.setIfInBounds i true)) a w)) :
    wpAny P .any ops QQ (left ops listed).length listed a w := by
  obtain ⟨h1, h2⟩ := h
  cases ha : t.isAlt with
  | false => exact h1 ha
  | true =>
    have hex : ∃ i, i ∈ Region.ready .any ops listed := by
      cases t with
      | alt i t rest =>
        simp only [okT, Bool.and_eq_true] at hok
        exact ⟨i, by simpa using hok.1⟩
      | none => cases hnn
      | _ => cases ha
    obtain ⟨i, hi⟩ := hex
    have hi' := hi
    rw [mem_ready] at hi
    obtain ⟨hu, oi, hoi, _⟩ := hi
    obtain ⟨pre, post, p1, _, _⟩ := left_split hl (Array.getElem?_eq_some_iff.1 hoi).1 hu
    have hlen : (left ops listed).length = ((left ops listed).length - 1) + 1 := by rw [p1]; simp; omega
    rw [hlen]
    exact ⟨fun hr => (by rw [hr] at hi'; cases hi'), h2 ha⟩

theorem tree_ok {E : Tab} {HH : AS → Act → World → Prop} (S : Sim P E n HH) {ops : Array Oper} {Q : AS → Prop} {QQ : Exit → Act → World → Prop} (hp : ∀ c a w, ¬ QQ (.panic c) a w) (hsel : Region.noSelect ops = true)
    (hQ : ∀ σ' a' w', HH σ' a' w' → Q σ' → QQ .normal a' w') (hn : OpsIn n ops) :
    ∀ (t : OT) {dn : List Nat} {listed : Array Bool} {need : List Nat} {σ : AS} {a : Act} {w : World}, listed.size = ops.size → (∀ i ∈ dn, listed.getD i false = true) → (∀ i, listed.getD i false = true → i ∈ dn) → Shut ops listed → okT E ops t dn listed need = true → HH σ a w → vcT P E ops t σ Q →
      (t.isAlt = false → wpAny P .any ops QQ (left ops listed).length listed a w) ∧
      (t.isAlt = true → ∀ i ∈ need, wpOp P ops QQ i (wpAny P .any ops QQ ((left ops listed).length - 1) (listed.setIfInBounds i true)) a w) := by
  have shut : ∀ {listed : Array Bool} {i : Nat} {oi : Oper}, Shut ops listed → ops[i]? = some oi → (∀ e ∈ oi.after, Region.binds .any e = true → listed.getD e.on false = true) → Shut ops (listed.setIfInBounds i true) := by
    intro listed i oi hs hoi hpre j o e hj ho he hb
    by_cases e1 : i = j
    · subst e1
      rw [hoi] at ho; cases ho
      exact getD_set_true (hpre e (by simpa using he) hb)
    · rw [getD_set_ne true e1] at hj
      exact getD_set_true (hs j o e hj ho he hb)
  have dns : ∀ {listed : Array Bool} {dn : List Nat} {i : Nat}, listed.size = ops.size → i < ops.size → (∀ i ∈ dn, listed.getD i false = true) → ∀ k ∈ i :: dn, (listed.setIfInBounds i true).getD k false = true := by
    intro listed dn i hl hi hdn k hk
    cases hk with
    | head => simp [hl, hi]
    | tail _ hk => exact getD_set_true (hdn k hk)
  have nds : ∀ {listed : Array Bool} {dn : List Nat} {i : Nat}, (∀ k, listed.getD k false = true → k ∈ dn) → ∀ k, (listed.setIfInBounds i true).getD k false = true → k ∈ i :: dn := by
    intro listed dn i hnd k hk
    by_cases e : i = k
    · subst e; simp
    · rw [getD_set_ne false e] at hk
      exact List.mem_cons_of_mem _ (hnd k hk)
  have lens : ∀ {listed : Array Bool} {i : Nat} {oi : Oper}, listed.size = ops.size → ops[i]? = some oi → listed.getD i true = false → (left ops listed).length = (left ops (listed.setIfInBounds i true)).length + 1 := by
    intro listed i oi hl hoi hu
    obtain ⟨pre, post, p1, p2, p3⟩ := left_split hl (Array.getElem?_eq_some_iff.1 hoi).1 hu
    rw [p1, p3]; simp; omega
  intro t
  induction t with
  | seq ds =>
    intro dn listed need σ a w hl hdn hnd hs hok hH h
    refine ⟨fun _ => ?_, fun h => (by cases h)⟩
    simp only [okT, Bool.and_eq_true, decide_eq_true_eq] at hok
    obtain ⟨hok0, hlen⟩ := hok
    have hok1 := hok0
    unfold ordOk at hok1
    simp only [Bool.and_eq_true] at hok1
    obtain ⟨t1, t2, _⟩ := topo_spec hok1.2.1
    have hlf : lft ds listed = ds := by
      unfold lft
      refine List.filter_eq_self.2 fun i hi => ?_
      obtain ⟨h1, h2⟩ := t2 i hi
      cases hv : listed.getD i true with
      | false => rfl
      | true => exact absurd (hnd i (by rw [← getD_true_false (by omega)]; exact hv)) h1
    obtain ⟨m, hm, ht⟩ := tr_of_vc (E := E) (ops := ops) (Q := Q) _ ds σ (pick_map fun i hi => (t2 i hi).2) h
    exact ord_ok S hp hok0 hQ hn _ hl hdn (by rw [hlf]; exact hlen) hs hH hm (by rw [hlf]; exact ht)
  | take i t ih =>
    intro dn listed need σ a w hl hdn hnd hs hok hH h
    refine ⟨fun _ => ?_, fun h => (by cases h)⟩
    simp only [okT, Bool.and_eq_true, Bool.not_eq_true'] at hok
    obtain ⟨hfree, hready, hop, hnn, hok⟩ := hok
    have hr : i ∈ Region.ready .any ops listed := by simpa using hready
    rw [mem_ready] at hr
    obtain ⟨hu, oi, hoi, hpre⟩ := hr
    have hi := (Array.getElem?_eq_some_iff.1 hoi).1
    rw [hoi] at hop
    simp only at hop
    obtain ⟨heff, hg⟩ := early_eff (E := E) hop
    have e1 : pickL ops.toList [i] = [oi] := by
      have e : pickL ops.toList [i] = match ops.toList[i]? with | some o => o :: [] | none => [] := rfl
      rw [e, Array.getElem?_toList, hoi]
    have h' : vcOps P E ops (pickL ops.toList [i]) σ (fun σ' => vcT P E ops t σ' Q) := h
    rw [e1, vcOps_cons, hg] at h'
    simp only at h'
    unfold vcOp at h'
    rw [heff] at h'
    simp only at h'
    obtain ⟨v, V, h1, h2, h3⟩ := S.first (m := σ.mem) (hn i oi hoi) hH (Sup.refl _) hop h'
    have hvt : vcT P E ops t (σ.put oi.dst v) Q := h1
    rw [lens hl hoi hu]
    refine wpAny_take hoi hsel hfree hready (fun c a w hq => (hp _ _ _ hq).elim) (v := V) (.inl ⟨by simp [Region.wanted, hg], h2⟩) ?_
    have hsz : (listed.setIfInBounds i true).size = ops.size := by simpa using hl
    exact node_ok hsz hnn hok (ih hsz (dns hl hi hdn) (nds hnd) (shut hs hoi hpre) hok h3 hvt)
  | alt i t rest iht ihr =>
    intro dn listed need σ a w hl hdn hnd hs hok hH h
    refine ⟨fun h => (by cases h), fun _ k hk => ?_⟩
    simp only [okT, Bool.and_eq_true, Bool.not_eq_true'] at hok
    obtain ⟨hready, ⟨hnn, hok⟩, hra, hokr⟩ := hok
    obtain ⟨h1, h2⟩ := (h : vcOps P E ops (pickL ops.toList [i]) σ (fun σ' => vcT P E ops t σ' Q) ∧ vcT P E ops rest σ Q)
    by_cases e : k = i
    · subst e
      have hr : k ∈ Region.ready .any ops listed := by simpa using hready
      rw [mem_ready] at hr
      obtain ⟨hu, oi, hoi, hpre⟩ := hr
      have hi := (Array.getElem?_eq_some_iff.1 hoi).1
      have hsz : (listed.setIfInBounds k true).size = ops.size := by simpa using hl
      have hlen : (left ops listed).length - 1 = (left ops (listed.setIfInBounds k true)).length := by rw [lens hl hoi hu]; omega
      rw [hlen]
      refine one_ok S hn hi hH h1 fun σ' a' w' h3 h4 => ?_
      exact node_ok hsz hnn hok (iht hsz (dns hl hi hdn) (nds hnd) (shut hs hoi hpre) hok h3 h4)
    · exact (ihr hl hdn hnd hs hokr hH h2).2 hra k (List.mem_filter.2 ⟨hk, by simpa using e⟩)
  | none =>
    intro dn listed need σ a w hl hdn hnd hs hok hH h
    refine ⟨fun h => (by cases h), fun _ k hk => ?_⟩
    simp only [okT, List.isEmpty_iff] at hok
    subst hok
    cases hk

theorem vc_sim {E : Tab} {HH : AS → Act → World → Prop} (S : Sim P E n HH) (hmix : P.follows .mixedOrders = true) : ∀ (x : Code) {Kn Kr : AS → Prop} {Ke : Nat → AS → Prop} {QQ : Exit → Act → World → Prop} {σ : AS} {a : Act} {w : World},
    okCode E n x = true → (∀ σ' a' w', HH σ' a' w' → Kn σ' → QQ .normal a' w') → (∀ id σ' a' w', HH σ' a' w' → Ke id σ' → QQ (.exit id) a' w') → (∀ σ' a' w', HH σ' a' w' → Kr σ' → QQ .ret a' w') →
    vcCode P E x Kn Ke Kr σ → HH σ a w → x.wp P QQ a w
  | .skip, Kn, Kr, Ke, QQ, σ, a, w, _, hn, _, _, h, hH => wp_skip (hn _ _ _ hH h)
  | .region id ops draw, Kn, Kr, Ke, QQ, σ, a, w, hok, hn, _, _, h, hH => by
    simp only [okCode, Bool.and_eq_true, List.all_eq_true] at hok
    obtain ⟨hd, hdr⟩ := hok
    have hdst : OpsIn n ops := fun i o ho => by
      have h1 := hd o (by simpa using Array.mem_of_getElem? ho)
      refine ⟨fun k hk => ?_, fun t ht => ?_⟩
      · have := h1.1
        rw [hk] at this
        simpa using this
      · have := Array.all_eq_true_iff_forall_mem.1 h1.2 (.tmp t) ht
        simpa using this
    replace h : ∃ σ1, Weak σ σ1 ∧ vcReg P E id ops σ1 Kn := by
      replace h : (match findO (id + 1000000) E.ord with
        | some _ => ∃ σ1, Weak σ σ1 ∧ vcReg P E id ops σ1 Kn
        | none => vcReg P E id ops σ Kn) := h
      split at h
      · exact h
      · exact ⟨σ, Weak.refl _, h⟩
    obtain ⟨σ1, hw1, h⟩ := h
    replace hH := S.weak hw1 hH
    clear hw1
    generalize σ1 = σ at h hH
    unfold vcReg at h
    have hz : left ops (Array.replicate ops.size false) = List.range ops.size := by
      unfold left
      refine List.filter_eq_self.2 fun i hi => ?_
      have := List.mem_range.1 hi
      simp [this]
    have hsh : Shut ops (Array.replicate ops.size false) := fun i o e hi ho _ _ => by
      have hlt := (Array.getElem?_eq_some_iff.1 ho).1
      simp [hlt] at hi
    split at h
    · rename_i t hx
      rw [hx] at hdr
      simp only [Bool.and_eq_true] at hdr
      obtain ⟨rfl, hf⟩ := hdr
      unfold treeOk at hf
      simp only [Bool.and_eq_true, Bool.not_eq_true'] at hf
      obtain ⟨f1, f2, f3⟩ := hf
      refine wp_mono (Q := fun e a w => QQ e a w ∧ ∀ c, e ≠ .panic c) ?_ (fun e a w h => h.1)
      refine wp_region_any hmix ?_
      have := tree_ok S (QQ := fun e a w => QQ e a w ∧ ∀ c, e ≠ .panic c) (Q := Kn) (fun c a w h => h.2 c rfl) f1 (fun σ' a' w' h1 h2 => ⟨hn _ _ _ h1 h2, fun c h => by cases h⟩) hdst t (listed := Array.replicate ops.size false) (by simp) (fun i hi => by cases hi) (fun i hi => by
        exfalso
        rw [Array.getD_eq_getD_getElem?, Array.getElem?_replicate] at hi
        split at hi <;> simp at hi) hsh f3 (S.drew hH) h
      have h0 := node_ok (t := t) (by simp) f2 f3 this
      rw [hz, List.length_range] at h0
      exact h0
    · rename_i hx
      rw [hx] at hdr
      obtain ⟨m, hm, ht⟩ := tr_of_vc (E := E) (ops := ops) (Q := Kn) ops.toList (List.range ops.size) σ (by
        apply List.ext_getElem?
        intro j
        simp only [List.getElem?_map, Array.getElem?_toList]
        by_cases hj : j < ops.size
        · simp [hj]
        · simp [hj]) h
      cases draw with
      | false =>
        refine wp_region ?_
        exact region_ok S hn hdst _ hH hm ht
      | true =>
        have hreg : regOk E ops = true := by simpa using hdr
        refine wp_region_any hmix ?_
        exact drawn_ok S (regOk_back hreg) (regOk_pair hreg) hn hdst ops.size (by simp) (by rw [hz]; simp) (fun _ _ => trivial) hsh (S.drew hH) hm (by rw [hz]; exact ht)
  | .seq x y, Kn, Kr, Ke, QQ, σ, a, w, hok, hn, he, hr, h, hH => by
    simp only [okCode, Bool.and_eq_true] at hok
    refine wp_seq (vc_sim S hmix x (QQ := Exit.then (y.wp P QQ) QQ) hok.1 (fun σ' a' w' h1 h2 => ?_) he hr h hH)
    exact vc_sim S hmix y hok.2 hn he hr h2 h1
  | .cond q x y, Kn, Kr, Ke, QQ, σ, a, w, hok, hn, he, hr, h, hH => by
    simp only [okCode, Bool.and_eq_true] at hok
    replace h : (match σ.get q with
      | .one (.lit (.bool b)) => match b with
        | true => vcCode P E x Kn Ke Kr σ
        | false => vcCode P E y Kn Ke Kr σ
      | _ => False) := h
    split at h
    case h_2 => exact h.elim
    rename_i b hb
    have hv := S.test (fun t ht => by have := hok.1; rw [ht] at this; simpa using this) hH hb
    refine wp_cond_split hv (fun e => ?_) (fun e => ?_)
    · subst e; exact vc_sim S hmix x hok.2.1 hn he hr h hH
    · subst e; exact vc_sim S hmix y hok.2.2 hn he hr h hH
  | .block id x, Kn, Kr, Ke, QQ, σ, a, w, hok, hn, he, hr, h, hH => by
    refine wp_block (vc_sim S hmix x (QQ := Exit.inBlock id QQ) (by simpa [okCode] using hok) hn (fun id' σ' a' w' h1 h2 => ?_) hr h hH)
    simp only [Exit.inBlock]
    by_cases e : id' = id
    · rw [if_pos e] at h2 ⊢; exact hn _ _ _ h1 h2
    · rw [if_neg e] at h2 ⊢; exact he _ _ _ _ h1 h2
  | .loop x, Kn, Kr, Ke, QQ, σ, a, w, hok, hn, he, hr, h, hH => by
    obtain ⟨I, ⟨σ0, k0, hw0, hI0⟩, hround⟩ := h
    intro b k' cs
    have key : ∀ (k : Nat) (σ : AS) (a : Act) (w : World), I σ k → HH σ a w → ∃ e a' w', QQ e a' w' ∧ Arrives P (lone (b.at a (.code x :: .inLoop x :: k')) cs w) b k' cs e a' w' := by
      intro k
      induction k using Nat.strongRecOn with
      | _ k ih =>
        intro σ a w hI hH
        obtain ⟨σ1, hw1, hr1⟩ := hround σ k hI
        have h1 := vc_sim S hmix x (Kn := fun σ' => ∃ σ'' k', Weak σ' σ'' ∧ k' < k ∧ I σ'' k') (QQ := Exit.then (fun a' w' => ∃ σ'' k', k' < k ∧ I σ'' k' ∧ HH σ'' a' w') QQ) (by simpa [okCode] using hok) (fun σ' a' w' h1 ⟨σ'', k', h2, h3, h4⟩ => ⟨σ'', k', h3, h4, S.weak h2 h1⟩) he hr hr1 (S.weak hw1 hH)
        obtain ⟨e, a₁, w₁, hq, harr⟩ := h1 b (.inLoop x :: k') cs
        cases e with
        | normal =>
          obtain ⟨σ'', k'', h3, h4, h5⟩ := hq
          obtain ⟨e₂, a₂, w₂, hq₂, harr₂⟩ := ih k'' h3 σ'' a₁ w₁ h4 h5
          exact ⟨e₂, a₂, w₂, hq₂, .of_steps (Steps.trans harr (.one step_inLoop)) harr₂⟩
        | exit id => exact ⟨_, a₁, w₁, hq, .pass (x := .inLoop x) rfl (fun _ _ => .inl (by simp)) harr⟩
        | goto l => exact ⟨_, a₁, w₁, hq, .pass (x := .inLoop x) rfl (fun _ _ => .inl (by simp)) harr⟩
        | ret => exact ⟨_, a₁, w₁, hq, .pass (x := .inLoop x) rfl (fun _ _ => .inl (by simp)) harr⟩
        | panic ch => exact ⟨_, a₁, w₁, hq, .pass (x := .inLoop x) rfl (fun _ _ => .inl (by simp)) harr⟩
        | outgrown => exact ⟨_, a₁, w₁, hq, .pass (x := .inLoop x) rfl (fun _ _ => .inl (by simp)) harr⟩
    obtain ⟨e, a', w', hq, harr⟩ := key k0 σ0 a w hI0 (S.weak hw0 hH)
    exact ⟨e, a', w', hq, .of_steps (.one step_loop) harr⟩
  | .exit id, Kn, Kr, Ke, QQ, σ, a, w, _, _, he, _, h, hH => wp_exit (he _ _ _ _ hH h)
  | .ret, Kn, Kr, Ke, QQ, σ, a, w, _, _, _, hr, h, hH => wp_ret (hr _ _ _ hH h)
  | .rangeFunc .., Kn, Kr, Ke, QQ, σ, a, w, _, _, _, _, h, _ => h.elim
  | .scope _, Kn, Kr, Ke, QQ, σ, a, w, _, _, _, _, h, _ => h.elim
  | .label _, Kn, Kr, Ke, QQ, σ, a, w, _, _, _, _, h, _ => h.elim
  | .goto _, Kn, Kr, Ke, QQ, σ, a, w, _, _, _, _, h, _ => h.elim
  | .refuse _, Kn, Kr, Ke, QQ, σ, a, w, _, _, _, _, h, _ => h.elim

theorem vc_ok {E : Tab} (hE : E.ok P) (hmix : P.follows .mixedOrders = true) (x : Code) {Kn Kr : AS → Prop} {Ke : Nat → AS → Prop} {QQ : Exit → Act → World → Prop} {σ : AS} {a : Act} {w : World}
    (hok : okCode E n x = true) (hn : ∀ σ' a' w', Holds w0 L n σ' a' w' → Kn σ' → QQ .normal a' w') (he : ∀ id σ' a' w', Holds w0 L n σ' a' w' → Ke id σ' → QQ (.exit id) a' w') (hr : ∀ σ' a' w', Holds w0 L n σ' a' w' → Kr σ' → QQ .ret a' w')
    (h : vcCode P E x Kn Ke Kr σ) (hH : Holds w0 L n σ a w) : x.wp P QQ a w :=
  vc_sim (sim_std hE) hmix x hok hn he hr h hH

def resV (E : Tab) (σ : AS) : ResultVar → Option (Bool × List AV)
  | .tmp t => match σ.tm t with
    | .one x => some (false, [x])
    | .agg xs => some (true, xs)
    | _ => none
  | .cell t ty => match E.ty ty, σ.tm t with
    | some (sz, g), .one (.ptr s 0) => match σ.mem s with
      | some (.var xs) => if xs.length = sz then some (g, xs) else none
      | _ => none
    | _, _ => none
def resVs (E : Tab) (σ : AS) : List ResultVar → Option (List (Bool × List AV))
  | [] => some []
  | r :: l => match resV E σ r, resVs E σ l with
    | some x, some xs => some (x :: xs)
    | _, _ => none

def nilA : AV → AV → Prop
  | .lit (.slice none 0 0), y => y = .lit (.slice none 0 0) ∨ ∃ k, y = .row true k []
  | x, y => y = x
def nilL : List AV → List AV → Prop
  | [], [] => True
  | x :: xs, y :: ys => nilA x y ∧ nilL xs ys
  | _, _ => False
def nilR : List (List AV) → List (List AV) → Prop
  | [], [] => True
  | x :: xs, y :: ys => nilL x y ∧ nilR xs ys
  | _, _ => False
theorem nilA_refl (x : AV) : nilA x x := by
  unfold nilA
  split
  · exact .inl rfl
  · rfl
theorem nilL_refl : ∀ xs : List AV, nilL xs xs
  | [] => trivial
  | x :: xs => ⟨nilA_refl x, nilL_refl xs⟩
theorem nilR_refl : ∀ xs : List (List AV), nilR xs xs
  | [] => trivial
  | x :: xs => ⟨nilL_refl x, nilR_refl xs⟩
theorem nilL_at : ∀ {xs ys : List AV}, nilL xs ys → xs.length = ys.length ∧ ∀ (j : Nat) (y : AV), ys[j]? = some y → ∃ x, xs[j]? = some x ∧ nilA x y
  | [], [], _ => ⟨rfl, fun j y h => by simp at h⟩
  | x :: xs, y :: ys, h => by
    obtain ⟨h1, h2⟩ := nilL_at h.2
    refine ⟨by simp [h1], fun j z hz => ?_⟩
    cases j with
    | zero => simp at hz; subst hz; exact ⟨x, rfl, h.1⟩
    | succ j => obtain ⟨u, hu, hn⟩ := h2 j z (by simpa using hz); exact ⟨u, by simpa using hu, hn⟩
theorem nilR_at : ∀ {xs ys : List (List AV)}, nilR xs ys → xs.length = ys.length ∧ (∀ (i : Nat) (e : List AV), ys[i]? = some e → ∃ d, xs[i]? = some d ∧ nilL d e) ∧ ∀ (i : Nat) (d : List AV), xs[i]? = some d → ∃ e, ys[i]? = some e ∧ nilL d e
  | [], [], _ => ⟨rfl, fun i e h => by simp at h, fun i e h => by simp at h⟩
  | x :: xs, y :: ys, h => by
    obtain ⟨h1, h2, h3⟩ := nilR_at h.2
    refine ⟨by simp [h1], fun i e he => ?_, fun i e he => ?_⟩
    · cases i with
      | zero => simp at he; subst he; exact ⟨x, rfl, h.1⟩
      | succ i => obtain ⟨u, hu, hn⟩ := h2 i e (by simpa using he); exact ⟨u, by simpa using hu, hn⟩
    · cases i with
      | zero => simp at he; subst he; exact ⟨y, rfl, h.1⟩
      | succ i => obtain ⟨u, hu, hn⟩ := h3 i e (by simpa using he); exact ⟨u, by simpa using hu, hn⟩
theorem nilR_elt {es es' : List (List AV)} (h : nilR es es') {i j : Nat} {y : AV} (hy : elt es' i j = some y) : ∃ x, elt es i j = some x ∧ nilA x y := by
  unfold elt at hy ⊢
  cases he : es'[i]? with
  | none => simp [he] at hy
  | some e =>
    obtain ⟨d, hd, hl⟩ := (nilR_at h).2.1 i e he
    simp only [he, Option.bind_some] at hy
    obtain ⟨x, hx, hn⟩ := (nilL_at hl).2 j y hy
    exact ⟨x, by rw [hd]; exact hx, hn⟩
theorem RO.nil1 {x y : AV} {v : Value} {G : Nat → Prop} (h : RO c w G x v) (hn : nilA x y) : RO c w G y v := by
  unfold nilA at hn
  split at hn
  · rcases hn with rfl | ⟨k, rfl⟩
    · exact h
    · cases h with
      | plain h1 h2 h3 => cases h2; exact .nil h3
  · subst hn; exact h
theorem RO.nils {sz : Nat} {es es' : List (List AV)} {v : Value} {G : Nat → Prop} (h : RO c w G (.row true sz es) v) (hn : nilR es es') : RO c w G (.row true sz es') v := by
  rcases h.inv with ⟨h1, h2, h3⟩ | ⟨b, cap, A, rfl, hA, C, e, fz, G', a1, a2, a3, a4, a5, a6, a7, a8, a9, a10, a11, a12⟩
  · subst h1 h2
    have : es' = [] := List.eq_nil_of_length_eq_zero (nilR_at hn).1.symm
    subst this
    exact .nil h3
  · obtain ⟨hl, hn1, hn2⟩ := nilR_at hn
    rw [hl]
    refine .own b C e fz G' a1 a2 (by omega) a4 a5 (fun e' he' => ?_) (fun i j y u hy hu => ?_) (fun i j y u hy hu => ?_) a9 a10 (fun i j k hk => ?_) a12 hA
    · obtain ⟨i, hi⟩ := List.getElem?_of_mem he'
      obtain ⟨d, hd, hdl⟩ := hn1 i e' hi
      rw [← (nilL_at hdl).1]; exact a6 d (List.mem_of_getElem? hd)
    · obtain ⟨x, hx, _⟩ := nilR_elt hn hy
      exact a7 i j x u hx hu
    · obtain ⟨x, hx, hxy⟩ := nilR_elt hn hy
      exact ((a8 i j x u hx hu).resolve_right (by simp)).nil1 hxy
    · have h5 := a11 i j k hk
      obtain ⟨x, hx⟩ := Option.isSome_iff_exists.1 h5
      obtain ⟨hi, hj⟩ := elt_lt a6 hx
      unfold elt
      cases hd : es[i]? with
      | none => unfold elt at hx; simp [hd] at hx
      | some d =>
        obtain ⟨e', he', hdl⟩ := hn2 i d hd
        have h6 := a6 d (List.mem_of_getElem? hd)
        have h7 := (nilL_at hdl).1
        rw [he']
        simp only [Option.bind_some, Option.isSome_iff_exists]
        exact ⟨e'[j]'(by omega), by simp⟩

def closeAV (m : Nat → Option Blk) : AV → AV → Prop
  | .lit (.slice none 0 0), y => y = .lit (.slice none 0 0) ∨ ∃ sz, y = .row true sz []
  | .lit v, y => y = .lit v
  | .loc s off len, y => match m s with
    | some (.row true sz es) => off = 0 ∧ len = es.length ∧ ∃ es', y = .row true sz es' ∧ nilR es es'
    | _ => False
  | _, _ => False
def closeL (m : Nat → Option Blk) : List AV → List AV → Prop
  | [], [] => True
  | x :: xs, y :: ys => closeAV m x y ∧ closeL m xs ys
  | _, _ => False
def closeTs (m : Nat → Option Blk) : List (Bool × List AV) → List (Bool × List AV) → Prop
  | [], [] => True
  | x :: xs, y :: ys => x.1 = y.1 ∧ closeL m x.2 y.2 ∧ closeTs m xs ys
  | _, _ => False
def locs : List AV → List Nat
  | [] => []
  | .loc s _ _ :: l => s :: locs l
  | _ :: l => locs l
def locsT : List (Bool × List AV) → List Nat
  | [] => []
  | x :: l => locs x.2 ++ locsT l
def wellT : List (Bool × List AV) → Bool
  | [] => true
  | x :: l => (x.1 || x.2.length == 1) && wellT l

def nodupB : List Nat → Bool
  | [] => true
  | x :: l => (l.all fun y => y != x) && nodupB l
theorem nodupB_ok : ∀ {l : List Nat}, nodupB l = true → l.Nodup
  | [], _ => List.nodup_nil
  | x :: l, h => by
    simp only [nodupB, Bool.and_eq_true, List.all_eq_true] at h
    exact List.nodup_cons.2 ⟨fun hm => by have := h.1 x hm; simp at this, nodupB_ok h.2⟩

def fin (E : Tab) (rs : List ResultVar) (r : T) (σ : AS) : Prop :=
  match resVs E σ rs with
  | some vs => if (nodupB (locsT vs) && wellT vs) = true then (match vs, r with
    | [(false, xs)], .one y => closeL σ.mem xs [y]
    | [(true, xs)], .agg ys => closeL σ.mem xs ys
    | [], .tup ts => closeTs σ.mem [] ts
    | x :: y :: l, .tup ts => closeTs σ.mem (x :: y :: l) ts
    | _, _ => False) else False
  | none => False

theorem closeAV_ok (h : H w0 L n σ a w c F) {x y : AV} {v : Value} (hX : R c w x v) (hk : closeAV σ.mem x y) : RO c w (fun k => ∃ s ∈ locs [x], F s k) y v := by
  unfold closeAV at hk
  split at hk
  · cases hX
    rcases hk with rfl | ⟨sz, rfl⟩
    · exact .plain rfl (.lit _) (by simp [locs])
    · exact .nil (by simp [locs])
  · subst hk
    cases hX
    exact .plain rfl (.lit _) (by simp [locs])
  · rename_i s off len
    split at hk
    case h_2 => exact hk.elim
    rename_i sz es hs
    obtain ⟨rfl, rfl, es', rfl, hnil⟩ := hk
    refine RO.nils ?_ hnil
    have e : (fun k => ∃ s' ∈ locs [AV.loc s 0 es.length], F s' k) = F s := by funext k; simp [locs]
    rw [e]
    rcases h.mem s _ hs with ⟨hat, rfl, hF⟩ | ⟨b, cap, hat, hB⟩
    · cases hX with
      | locnil => exact .nil hF
      | loc h1 => rw [hat] at h1; cases h1
    · generalize hq : es.length = q at hX
      cases hX with
      | locnil h1 => rw [hat] at h1; cases h1
      | @loc _ _ _ b' cap' sz' A h1 hle hA =>
        rw [hat] at h1; cases h1
        subst hq
        exact hB.own (fun hc => by simpa using hA hc)
  · exact hk.elim

theorem locs_cons (x : AV) (xs : List AV) : locs (x :: xs) = locs [x] ++ locs xs := by cases x <;> simp [locs]

theorem closeL_ok (h : H w0 L n σ a w c F) : ∀ {xs ys : List AV} {vs : List Value}, (locs xs).Nodup → RL c w xs vs → closeL σ.mem xs ys → ROL c w (fun k => ∃ s ∈ locs xs, F s k) ys vs
  | [], [], [], _, _, _ => by simp [ROL, locs]
  | x :: xs, y :: ys, v :: vs, hn, hR, hk => by
    rw [locs_cons] at hn
    have hd := List.nodup_append.1 hn
    refine ⟨fun k => ∃ s ∈ locs [x], F s k, fun k => ∃ s ∈ locs xs, F s k, ⟨closeAV_ok h hR.1.1 hk.1, hR.1.2⟩, closeL_ok h hd.2.1 hR.2 hk.2, fun k => ?_, fun k => ?_⟩
    · rintro ⟨s, h1, h2⟩ ⟨s', h3, h4⟩
      have := h.disj _ _ _ h2 h4
      subst this
      exact hd.2.2 s h1 s h3 rfl
    · rw [locs_cons]; simp [or_and_right, exists_or]
theorem closeTs_ok (h : H w0 L n σ a w c F) : ∀ {ts us : List (Bool × List AV)} {vs : List Value}, (locsT ts).Nodup → wellT ts = true → RTs c w ts vs → closeTs σ.mem ts us → ROTs c w (fun k => ∃ s ∈ locsT ts, F s k) us vs
  | [], [], [], _, _, _, _ => by simp [ROTs, locsT]
  | (false, [x]) :: ts, (false, [y]) :: us, v :: vs, hn, hw, hR, hk => by
    simp only [locsT] at hn
    have hd := List.nodup_append.1 hn
    refine ⟨fun k => ∃ s ∈ locs [x], F s k, fun k => ∃ s ∈ locsT ts, F s k, ⟨closeAV_ok h hR.1.1 hk.2.1.1, hR.1.2⟩, closeTs_ok h hd.2.1 (by simpa [wellT] using hw) hR.2 hk.2.2, fun k => ?_, fun k => ?_⟩
    · rintro ⟨s, h1, h2⟩ ⟨s', h3, h4⟩
      have := h.disj _ _ _ h2 h4
      subst this
      exact hd.2.2 s h1 s h3 rfl
    · simp [locsT, or_and_right, exists_or]
  | (true, xs) :: ts, (true, ys) :: us, .agg vs' :: vs, hn, hw, hR, hk => by
    simp only [locsT] at hn
    have hd := List.nodup_append.1 hn
    refine ⟨fun k => ∃ s ∈ locs xs, F s k, fun k => ∃ s ∈ locsT ts, F s k, closeL_ok h hd.1 hR.1 hk.2.1, closeTs_ok h hd.2.1 (by simpa [wellT] using hw) hR.2 hk.2.2, fun k => ?_, fun k => ?_⟩
    · rintro ⟨s, h1, h2⟩ ⟨s', h3, h4⟩
      have := h.disj _ _ _ h2 h4
      subst this
      exact hd.2.2 s h1 s h3 rfl
    · simp [locsT, or_and_right, exists_or]

def resRun (tmps : Array Value) : ResultVar → Sem Value
  | .tmp t => pure (tmps.getD t undef)
  | .cell a t => do loadVar t (← asAddr (tmps.getD a undef))

theorem resV_ok {E : Tab} (hE : E.ok P) (h : H w0 L n σ a w c F) {r : ResultVar} {x : Bool × List AV} (hr : resV E σ r = some x) :
    ∃ V, (resRun a.tmps r).run P w = .ok V w ∧ ((x.1 = false ∧ ∃ y, x.2 = [y] ∧ R c w y V ∧ V.oneCell' = true) ∨ (x.1 = true ∧ ∃ vs, V = .agg vs ∧ RL c w x.2 vs.toList)) := by
  cases r with
  | tmp t =>
    simp only [resV] at hr
    have ht := h.tm t
    refine ⟨a.tmps.getD t undef, rfl, ?_⟩
    split at hr
    · rename_i y hy
      rw [hy] at ht
      cases hr
      exact .inl ⟨rfl, y, rfl, ht⟩
    · rename_i xs hy
      rw [hy] at ht
      cases hr
      refine .inr ⟨rfl, ?_⟩
      generalize a.tmps.getD t undef = V at ht ⊢
      cases V <;> first | exact ht.elim | exact ⟨_, rfl, ht⟩
    · cases hr
  | cell t ty =>
    simp only [resV] at hr
    split at hr
    case h_2 => cases hr
    rename_i sz g s hty hts
    replace hty := Tab.ty_ok hE hty
    split at hr
    case h_2 => cases hr
    rename_i xs hs
    split at hr
    case isFalse => cases hr
    rename_i hl
    cases hr
    have ht := h.tm t
    rw [hts] at ht
    obtain ⟨ht, _⟩ := ht
    generalize hq : a.tmps.getD t undef = V at ht
    cases ht with | @ptr _ _ b hp =>
    obtain ⟨b', hat, _, vs, hR, hv⟩ := h.varCells hs
    rw [hp] at hat; cases hat
    have hrun := run_loadVar_cells (P := P) (w := w) hty (b := b) (o := 0) vs (by rw [← hR.length]; exact hl) (fun k v hk => by rw [Nat.zero_add]; exact hv k v hk)
    refine ⟨_, by simp only [resRun, hq, asAddr, pure_bind]; exact hrun, ?_⟩
    cases g with
    | true => exact .inr ⟨rfl, _, rfl, hR⟩
    | false =>
      obtain ⟨i, d, _, _, _, _, h1⟩ := tyI_some hty
      have := h1 rfl
      rw [this] at hl
      match xs, vs, hl, hR with
      | [x], [v], _, hR => exact .inl ⟨rfl, x, rfl, hR.1⟩

theorem resVs_ok {E : Tab} (hE : E.ok P) (h : H w0 L n σ a w c F) : ∀ {rs : List ResultVar} {xs : List (Bool × List AV)}, resVs E σ rs = some xs → ∃ Vs : List Value, (rs.mapM (resRun a.tmps)).run P w = .ok Vs w ∧ RTs c w xs Vs ∧ Vs.length = rs.length
  | [], xs, hr => by simp [resVs] at hr; subst hr; exact ⟨[], by simp, trivial, rfl⟩
  | r :: rs, xs, hr => by
    simp only [resVs] at hr
    split at hr
    case h_2 => cases hr
    rename_i x xs' hx hxs
    cases hr
    obtain ⟨V, h1, h2⟩ := resV_ok hE h hx
    obtain ⟨Vs, h3, h4, h5⟩ := resVs_ok hE h hxs
    refine ⟨V :: Vs, ?_, ?_, by simp [h5]⟩
    · rw [List.mapM_cons, Sem.run_bind, h1]
      simp only [Result.andThen_ok, Sem.run_bind, h3, Sem.run_pure]
    · obtain ⟨b, ys⟩ := x
      rcases h2 with ⟨rfl, y, rfl, h2⟩ | ⟨rfl, vs, rfl, h2⟩
      · exact ⟨h2, h4⟩
      · exact ⟨h2, h4⟩

theorem fin_ok {E : Tab} (hE : E.ok P) (h : H w0 L n σ a w c F) {fn : Func} {r : T} (hk : fin E fn.results.toList r σ) :
    ∃ V, (results fn a.tmps).run P w = .ok V w ∧ ∃ G : Nat → Prop, ROT' c w G r V ∧ ∀ k, G k → ∃ s, F s k := by
  unfold fin at hk
  split at hk
  case h_2 => exact hk.elim
  rename_i vs hvs
  split at hk
  case isFalse => exact hk.elim
  rename_i hnw
  simp only [Bool.and_eq_true] at hnw
  obtain ⟨hn, hw⟩ := hnw
  replace hn := nodupB_ok hn
  obtain ⟨Vs, h1, h2, h3⟩ := resVs_ok hE h hvs
  have hrun : (results fn a.tmps).run P w = .ok (if h : Vs.toArray.size = 1 then Vs.toArray[0] else .tuple Vs.toArray) w := by
    have e : results fn a.tmps = (do let vs ← fn.results.mapM (resRun a.tmps); pure (if h : vs.size = 1 then vs[0] else .tuple vs)) := by
      unfold results
      rfl
    rw [e, Array.mapM_eq_mapM_toList]
    simp only [Sem.run_bind, Sem.run_map, Result.andThen_ok, h1, Sem.run_pure]
  refine ⟨_, hrun, fun k => ∃ s ∈ locsT vs, F s k, ?_, fun k ⟨s, _, hs⟩ => ⟨s, hs⟩⟩
  split at hk
  · rename_i xs y
    have hx : ∃ x, xs = [x] := by
      simp [wellT] at hw
      match xs, hw with
      | [x], _ => exact ⟨x, rfl⟩
    obtain ⟨x, rfl⟩ := hx
    match Vs, h2 with
    | [v], h2 =>
      have := closeAV_ok h h2.1.1 hk.1
      simp only [locsT, List.append_nil]
      exact ⟨this, h2.1.2⟩
  · rename_i xs ys
    match Vs, h2 with
    | [.agg us], h2 =>
      simp only [locsT, List.append_nil] at hn ⊢
      exact closeL_ok h hn h2.1 hk
  · match Vs, h2 with
    | [], h2 => exact closeTs_ok h hn hw h2 hk
  · rename_i x y l ts
    have hlen : Vs.length ≠ 1 := by
      have : ∀ {xs : List (Bool × List AV)} {Vs : List Value}, RTs c w xs Vs → xs.length = Vs.length := by
        intro xs
        induction xs with
        | nil => intro Vs h; cases Vs with | nil => rfl | cons => exact h.elim
        | cons t xs ih =>
          intro Vs h
          match t, Vs, h with
          | (false, [x]), v :: vs, h => simp [ih h.2]
          | (true, ys), .agg us :: vs, h => simp [ih h.2]
      rw [← this h2]; simp
    rw [dif_neg (by simpa using hlen)]
    exact closeTs_ok h hn hw h2 hk
  · exact hk.elim

def AS.init (args : List T) : AS := ⟨fun t => args.getD t .dead, fun _ => none⟩

theorem fun1_of_vc {E : Tab} (hE : E.ok P) {f : FuncId} {fn : Func} {x : Code} {args : List T} {r : T} (hmix : P.follows .mixedOrders = true) (hf : P.funcs[f]? = some fn) (hb : fn.body = some x) (hname : (fn.name == "runtime.NumGoroutine") = false)
    (hok : okCode E fn.ntmps x = true) (hlen : args.length ≤ fn.ntmps) (hnb : r.nb = true) (h : vcCode P E x (fin E fn.results.toList r) (fun _ _ => False) (fin E fn.results.toList r) (AS.init args)) : Fun1 P f args r := by
  refine ⟨⟨fn, hf, by simp [hb], hname⟩, hnb, fun w I vs hI hgl hargs => ?_⟩
  have hvl : vs.toList.length = args.length := by
    have : ∀ {ts : List T} {us : List Value}, RTL (c0 I) w ts us → us.length = ts.length := by
      intro ts
      induction ts with
      | nil => intro us h; cases us with | nil => rfl | cons => exact h.elim
      | cons t ts ih => intro us h; cases us with | nil => exact h.elim | cons u us => simp [ih h.2]
    exact this hargs
  have hat : ∀ {ts : List T} {us : List Value}, RTL (c0 I) w ts us → ∀ t : Nat, RT (c0 I) w (ts.getD t .dead) (us.getD t undef) := by
    intro ts
    induction ts with
    | nil => intro us h t; trivial
    | cons t ts ih =>
      intro us h k
      cases us with
      | nil => exact h.elim
      | cons u us =>
        cases k with
        | zero => exact h.1
        | succ k => exact ih h.2 k
  refine calls_of_wp hf hb ?_
  have hH : H w (fun _ => False) fn.ntmps (AS.init args) { tmps := vs ++ Array.replicate (fn.ntmps - vs.size) undef, defers := [] } w (c0 I) (fun _ _ => False) := by
    have hvs : vs.size = args.length := by simpa using hvl
    refine { gl := hgl.mono (fun b hb => ⟨hI b hb, fun h => h⟩) (Nat.le_refl _) (fun _ _ => rfl), keeps := ⟨rfl, rfl, rfl, Nat.le_refl _, fun _ _ _ => rfl, fun _ => Nat.le_refl _⟩, size := by simp; omega, defers := rfl, tm := fun t => ?_, mem := fun s k hk => (by cases hk), dom := fun s _ => ⟨rfl, fun k h => h⟩, disj := fun _ _ _ h => h.elim, new := fun _ _ h => h.elim, imm := hI, inn := fun _ _ h => h.elim, par := fun s v x hk => (by cases hk) }
    have := hat hargs t
    by_cases ht : t < vs.size
    · have e : (vs ++ Array.replicate (fn.ntmps - vs.size) undef).getD t undef = vs.toList.getD t undef := by
        rw [Array.getD_eq_getD_getElem?, Array.getElem?_append_left ht]
        simp
      rw [e]; exact this
    · have e : args.getD t .dead = .dead := by rw [List.getD_eq_getElem?_getD, List.getElem?_eq_none (by omega)]; rfl
      show RT _ _ (args.getD t .dead) _
      rw [e]; trivial
  have done : ∀ σ' a' w', Holds w (fun _ => False) fn.ntmps σ' a' w' → fin E fn.results.toList r σ' → a'.defers = [] ∧ ∃ V, (results fn a'.tmps).run P w' = .ok V w' ∧ ∃ v F, Ending.returned V = .returned v ∧ ROT' (c0 I) w' F r v ∧ (∀ k, F k → w.heap.size ≤ k ∧ k < w'.heap.size) ∧ Bel w.heap.size w w' := by
    rintro σ' a' w' ⟨c', F', h'⟩ hf'
    obtain ⟨V, h1, G, h2, h3⟩ := fin_ok hE h' hf'
    refine ⟨h'.defers, V, h1, V, G, rfl, h2.nb hnb, fun k hk => ?_, ⟨h'.keeps.os, h'.keeps.tape, h'.keeps.output, h'.keeps.size, fun k hk => h'.keeps.block k hk (fun h => h), h'.keeps.dr⟩⟩
    obtain ⟨s, hs⟩ := h3 k hk
    have := h'.new s k hs
    exact ⟨this.1.resolve_right (fun h => h), this.2⟩
  exact vc_ok hE hmix x (n := fn.ntmps) (w0 := w) (L := fun _ => False) hok (fun σ' a' w' h1 h2 => done σ' a' w' h1 h2) (fun _ _ _ _ _ h => h.elim) (fun σ' a' w' h1 h2 => done σ' a' w' h1 h2) h ⟨_, _, hH⟩
end
end Go.Proofs.YtjajnladldchcaaDoor
namespace Go.Proofs.YtjajnladldchcaaDoor
open Go.RowKit
set_option linter.unusedSimpArgs false
set_option linter.unusedVariables false

theorem close_int {m : Nat → Option Blk} {k : IntKind} {a b : Int} (h : b = a) : closeAV m (.lit (.int k a)) (.lit (.int k b)) := by subst h; exact rfl
theorem close_bool {m : Nat → Option Blk} {a b : Bool} (h : b = a) : closeAV m (.lit (.bool a)) (.lit (.bool b)) := by subst h; exact rfl
theorem close_str {m : Nat → Option Blk} {a b : ByteArray} (h : b = a) : closeAV m (.lit (.string a)) (.lit (.string b)) := by subst h; exact rfl
theorem close_row {m : Nat → Option Blk} {s off len sz : Nat} {es es' : List (List AV)} (hm : m s = some (.row true sz es)) (h0 : off = 0) (h1 : len = es.length) (h : es' = es) : closeAV m (.loc s off len) (.row true sz es') := by
  subst h
  simp only [closeAV, hm]
  exact ⟨h0, h1, _, rfl, nilR_refl _⟩
theorem close_nil {m : Nat → Option Blk} {sz : Nat} {es : List (List AV)} (h : es = []) : closeAV m (.lit (.slice none 0 0)) (.row true sz es) := by subst h; exact .inr ⟨sz, rfl⟩
theorem lends_nil {m : Nat → Option Blk} : LendTs m [] [] := trivial
theorem lends_cons {m : Nat → Option Blk} {t u : T} {ts us : List T} (h : LendT m t u) (h' : LendTs m ts us) : LendTs m (t :: ts) (u :: us) := ⟨h, h'⟩
theorem lend_one {m : Nat → Option Blk} {x y : AV} (h : LendA m 4 x y) : LendT m (.one x) (.one y) := by unfold LendT; cases y <;> exact h
theorem lend_agg {m : Nat → Option Blk} {xs ys : List AV} (h : all2 (LendA m 4) xs ys) : LendT m (.agg xs) (.agg ys) := h
theorem all2_nil {p : AV → AV → Prop} : all2 p [] [] := trivial
theorem all2_cons {p : AV → AV → Prop} {x y : AV} {xs ys : List AV} (h : p x y) (h' : all2 p xs ys) : all2 p (x :: xs) (y :: ys) := ⟨h, h'⟩
theorem la_int {m : Nat → Option Blk} {n : Nat} {k : IntKind} {a b : Int} (h : b = a) : LendA m n (.lit (.int k a)) (.lit (.int k b)) := by subst h; cases n <;> exact Or.inl rfl
theorem la_row {m : Nat → Option Blk} {n : Nat} {o o' : Bool} {sz sz' : Nat} {es es' : List (List AV)} (h0 : sz' = sz) (h : es' = es) : LendA m n (.row o sz es) (.row o' sz' es') := by cases n <;> exact ⟨h0, h⟩
theorem la_nil {m : Nat → Option Blk} {n : Nat} {o : Bool} {sz : Nat} {es : List (List AV)} (h : es = []) : LendA m n (.lit (.slice none 0 0)) (.row o sz es) := by subst h; cases n <;> exact .inr (.inl ⟨o, sz, rfl⟩)
theorem la_loc {m : Nat → Option Blk} {n s off len sz sz' : Nat} {o : Bool} {es es' : List (List AV)} (hm : m s = some (.row true sz es)) (h0 : sz' = sz) (h1 : off = 0) (h2 : len = es.length) (h : es' = es) : LendA m n (.loc s off len) (.row o sz' es') := by
  subst h h0 h1 h2
  cases n <;> simp [LendA, hm]

theorem wrap_id {k : IntKind} {a : Int} (h1 : k.min ≤ a) (h2 : a ≤ k.max) : a = k.wrap a := by
  cases k <;> simp [IntKind.min, IntKind.max, IntKind.signed, IntKind.bits] at h1 h2 <;> simp [IntKind.wrap, IntKind.signed, IntKind.bits] <;> omega
theorem wrap64_id {a : Int} (h1 : -9223372036854775808 ≤ a) (h2 : a ≤ 9223372036854775807) : a = IntKind.i64.wrap a := wrap_id (by simpa [IntKind.min, IntKind.signed, IntKind.bits] using h1) (by simpa [IntKind.max, IntKind.signed, IntKind.bits] using h2)

def AV.only (l : List Nat) : AV → Bool
  | .ptr s _ => l.contains s
  | .eptr s _ _ => l.contains s
  | .loc s _ _ => l.contains s
  | .fn _ caps => caps.all fun x => match x with
    | .ptr s _ => l.contains s
    | .eptr s _ _ => l.contains s
    | .loc s _ _ => l.contains s
    | .fn _ _ => false
    | _ => true
  | _ => true
def T.only (l : List Nat) : T → Bool
  | .one x => x.only l
  | .agg xs => xs.all (AV.only l)
  | .tup ts => ts.all fun t => t.2.all (AV.only l)
  | .dead => true
def Blk.only (l : List Nat) : Blk → Bool
  | .var xs => xs.all (AV.only l)
  | .row p _ es => p || es.all fun e => e.all (AV.only l)
  | .par _ _ => true
  | .pin s _ => l.contains s
  | .mapb _ _ => true

section
variable {w0 w : World} {L : Nat → Prop} {n : Nat} {σ : AS} {a : Act} {c : Ctx} {F : Nat → Nat → Prop}

def Ctx.cut (c : Ctx) (l : List Nat) : Ctx := ⟨fun s => if l.contains s then c.at_ s else none, c.I⟩
theorem R.only {l : List Nat} {x : AV} {v : Value} (h : R c w x v) (ho : x.only l = true) : R (c.cut l) w x v := by
  have key : ∀ {x : AV} {v : Value}, R c w x v → (match x with
    | .ptr s _ => l.contains s
    | .eptr s _ _ => l.contains s
    | .loc s _ _ => l.contains s
    | .fn _ _ => false
    | _ => true) = true → R (c.cut l) w x v := by
    intro x v h ho
    cases x with
    | dead => exact .dead v
    | lit => cases h; exact .lit _
    | ptr s j => cases h with | ptr h => exact .ptr (show (c.cut l).at_ s = _ by simp only [Ctx.cut]; rw [if_pos ho]; exact h)
    | eptr s i j => cases h with | @eptr _ _ _ b cap sz h => exact .eptr (b := b) (cap := cap) (sz := sz) (show (c.cut l).at_ s = _ by simp only [Ctx.cut]; rw [if_pos ho]; exact h)
    | loc s o len => cases h with
      | loc h a b => exact .loc (show (c.cut l).at_ s = _ by simp only [Ctx.cut]; rw [if_pos ho]; exact h) a b
      | locnil h => exact .locnil (show (c.cut l).at_ s = _ by simp only [Ctx.cut]; rw [if_pos ho]; exact h)
    | row => exact R.free (c := c) (c' := c.cut l) (fun _ h => h) (fun _ _ => rfl) h rfl
    | bptr => exact R.free (c := c) (c' := c.cut l) (fun _ h => h) (fun _ _ => rfl) h rfl
    | nn => exact R.free (c := c) (c' := c.cut l) (fun _ h => h) (fun _ _ => rfl) h rfl
    | fn => cases ho
  cases x with
  | fn f caps =>
    cases h with | fn a1 a0 a2 =>
    exact .fn a1 a0 fun k x v hx hv => key (a2 k x v hx hv) (List.all_eq_true.1 ho _ (List.mem_of_getElem? hx))
  | dead => exact key h rfl
  | lit => exact key h rfl
  | ptr => exact key h ho
  | eptr => exact key h ho
  | loc => exact key h ho
  | row => exact key h rfl
  | bptr => exact key h rfl
  | nn => exact key h rfl
theorem RL.only {l : List Nat} : ∀ {xs : List AV} {vs : List Value}, RL c w xs vs → xs.all (AV.only l) = true → RL (c.cut l) w xs vs
  | [], [], _, _ => trivial
  | _ :: _, _ :: _, h, ho => by
    simp only [List.all_cons, Bool.and_eq_true] at ho
    exact ⟨⟨h.1.1.only ho.1, h.1.2⟩, RL.only h.2 ho.2⟩
theorem RTs.only {l : List Nat} : ∀ {ts : List (Bool × List AV)} {vs : List Value}, RTs c w ts vs → (ts.all fun t => t.2.all (AV.only l)) = true → RTs (c.cut l) w ts vs
  | [], [], _, _ => trivial
  | (false, [x]) :: _, _ :: _, h, ho => by
    simp only [List.all_cons, Bool.and_eq_true, List.all_nil, Bool.and_true] at ho
    exact ⟨⟨h.1.1.only ho.1, h.1.2⟩, RTs.only h.2 ho.2⟩
  | (true, _) :: _, .agg _ :: _, h, ho => by
    simp only [List.all_cons, Bool.and_eq_true] at ho
    exact ⟨RL.only h.1 ho.1, RTs.only h.2 ho.2⟩
theorem RT.only {l : List Nat} {t : T} {v : Value} (h : RT c w t v) (ho : t.only l = true) : RT (c.cut l) w t v := by
  cases t with
  | dead => trivial
  | one x => exact ⟨h.1.only ho, h.2⟩
  | agg xs => cases v <;> first | exact h.elim | exact RL.only h ho
  | tup ts => cases v <;> first | exact h.elim | exact RTs.only h ho

theorem H.keep (h : H w0 L n σ a w c F) {tl : List (Nat × T)} {ml : List (Nat × Blk)} (ht : ∀ p ∈ tl, RT c w p.2 (a.tmps.getD p.1 undef)) (hm : ∀ p ∈ ml, σ.mem p.1 = some p.2)
    (ho : (tl.all fun p => p.2.only (ml.map (·.1))) = true) (ho' : (ml.all fun p => p.2.only (ml.map (·.1))) = true) :
    H w0 L n (AS.of tl ml) a w (c.cut (ml.map (·.1))) (fun s b => (ml.map (·.1)).contains s = true ∧ F s b) := by
  have hlk : ∀ (ml : List (Nat × Blk)) (s : Nat) (k : Blk), lkM ml s = some k → (s, k) ∈ ml := by
    intro ml
    induction ml with
    | nil => intro s k h; simp [lkM] at h
    | cons p ml ih =>
      intro s k h
      obtain ⟨s', k'⟩ := p
      simp only [lkM] at h
      split at h
      · rename_i e; subst e; cases h; simp
      · exact List.mem_cons_of_mem _ (ih s k h)
  have hlkn : ∀ (ml : List (Nat × Blk)) (s : Nat), lkM ml s = none → (ml.map (·.1)).contains s = false := by
    intro ml
    induction ml with
    | nil => intro s h; rfl
    | cons p ml ih =>
      intro s h
      obtain ⟨s', k'⟩ := p
      simp only [lkM] at h
      split at h
      · cases h
      · rename_i e
        simp only [List.map_cons, List.contains_cons, Bool.or_eq_false_iff]
        exact ⟨by simpa using e, ih s h⟩
  have hlt : ∀ (tl : List (Nat × T)) (t : Nat), lkT tl t = .dead ∨ ∃ p ∈ tl, p.1 = t ∧ lkT tl t = p.2 := by
    intro tl
    induction tl with
    | nil => intro t; exact .inl rfl
    | cons p tl ih =>
      intro t
      obtain ⟨k, v⟩ := p
      simp only [lkT]
      split
      · rename_i e; subst e; exact .inr ⟨(t, v), by simp, rfl, rfl⟩
      · rcases ih t with h1 | ⟨p, h1, h2, h3⟩
        · exact .inl h1
        · exact .inr ⟨p, by simp [h1], h2, h3⟩
  have hin : ∀ {s : Nat} {k : Blk}, (s, k) ∈ ml → (ml.map (·.1)).contains s = true := fun {s k} hs => by
    rw [List.contains_iff_mem]; exact List.mem_map.2 ⟨(s, k), hs, rfl⟩
  refine ⟨h.keeps, h.size, h.defers, fun t => ?_, fun s k hk => ?_, fun s hs => ?_, fun s s' b h1 h2 => h.disj _ _ _ h1.2 h2.2, fun s b hb => h.new s b hb.2, h.imm, fun s b hb => ?_, fun s v x hk => h.par s v x (hm _ (hlk ml s _ hk)), h.gl⟩
  · rcases hlt tl t with h1 | ⟨p, h1, rfl, h3⟩
    · show RT _ _ (lkT tl t) _; rw [h1]; trivial
    · show RT _ _ (lkT tl p.1) _
      rw [h3]
      exact (ht p h1).only (List.all_eq_true.1 ho p h1)
  · have hmem := hlk ml s k hk
    have hc := hin hmem
    have hb := h.mem s k (hm _ hmem)
    have hon : k.only (ml.map (·.1)) = true := List.all_eq_true.1 ho' _ hmem
    rw [show (fun b => (ml.map (·.1)).contains s = true ∧ F s b) = F s from funext fun b => propext (and_iff_right hc)]
    have hat : (c.cut (ml.map (·.1))).at_ s = c.at_ s := by simp only [Ctx.cut]; rw [if_pos hc]
    cases k with
    | var xs =>
      obtain ⟨b, C, e, fz, a1, a2, a3, a4, a5⟩ := hb
      exact ⟨b, C, e, fz, hat.trans a1, a2, a3, a4.only hon, a5⟩
    | row p sz es =>
      rcases hb with ⟨a1, a2, a3⟩ | ⟨b, cap, a1, C, e, fz, G, b1, b2, b3, b4, b5, b6, b7, b8, b9, b10, b11, b12⟩
      · exact .inl ⟨hat.trans a1, a2, a3⟩
      · refine .inr ⟨b, cap, hat.trans a1, C, e, fz, G, b1, b2, b3, b4, b5, b6, b7, fun i j x v hx hv => ?_, b9, b10, b11, b12⟩
        rcases b8 i j x v hx hv with h2 | ⟨h2, h3, h4, h5⟩
        · exact .inl (RO.ctx (c := c) (c' := c.cut (ml.map (·.1))) (fun _ h => h) h2)
        · refine .inr ⟨h2, h3, h4.only ?_, h5⟩
          subst h2
          simp only [Blk.only, Bool.false_or, List.all_eq_true] at hon
          unfold elt at hx
          cases he : es[i]? with
          | none => simp [he] at hx
          | some e => simp [he] at hx; exact hon e (List.mem_of_getElem? he) x (List.mem_of_getElem? hx)
    | par v x => exact ⟨hat.trans hb.1, hb.2⟩
    | pin s2 i => exact ⟨hat.trans hb.1, hb.2.1, by
        have hon' : (ml.map (·.1)).contains s2 = true := hon
        simp only [Ctx.cut]; rw [if_pos hon']; exact hb.2.2⟩
    | mapb b es => exact ⟨hat.trans hb.1, hb.2⟩
  · have hc := hlkn ml s hs
    exact ⟨by simp only [Ctx.cut]; rw [if_neg (by rw [hc]; simp)], fun b hb => by rw [hc] at hb; cases hb.1⟩
  · have := h.inn s b hb.2
    have hat : ∀ b, (c.cut (ml.map (·.1))).top s b ↔ c.top s b := fun b => by
      simp only [Ctx.top, Ctx.cut]
      rw [if_pos hb.1]
    rw [hat]; exact this

theorem weak_of {tl : List (Nat × T)} {ml : List (Nat × Blk)} (ht : ∀ p ∈ tl, σ.tm p.1 = p.2) (hm : ∀ p ∈ ml, σ.mem p.1 = some p.2)
    (ho : (tl.all fun p => p.2.only (ml.map (·.1))) = true) (ho' : (ml.all fun p => p.2.only (ml.map (·.1))) = true) : Weak σ (AS.of tl ml) := by
  rintro w0 L n a w ⟨c, F, h⟩
  exact ⟨_, _, h.keep (fun p hp => by rw [← ht p hp]; exact h.tm p.1) hm ho ho'⟩
end
end Go.Proofs.YtjajnladldchcaaDoor
namespace Go.Proofs.YtjajnladldchcaaDoor
open Go.RowKit
set_option linter.unusedSimpArgs false
set_option linter.unusedVariables false

def memI (at_ : Nat → SI) (bs : List (Nat × List (List AV))) (s : Nat) : Option Blk :=
  match bs[s]? with
  | some b => some (.row true b.1 b.2)
  | none => if s < 8 then none else if s - 8 < bs.length then some (.pin (s - 8) (at_ (s - 8))) else none
def endM (at_ : Nat → SI) (σ : AS) : Nat → List (Nat × List (List AV)) → Prop
  | _, [] => True
  | i, b :: bs => (match σ.mem i with
    | some (.row true sz es) => sz = b.1 ∧ es = b.2
    | _ => False) ∧ σ.mem (i + 8) = some (.pin i (at_ i)) ∧ endM at_ σ (i + 1) bs
def finM (E : Tab) (rs : List ResultVar) (at_ : Nat → SI) (bs' : List (Nat × List (List AV))) (r : Value) (σ : AS) : Prop :=
  match resVs E σ rs with
  | some [(false, [.lit v])] => r = v ∧ endM at_ σ 0 bs'
  | some [] => r = .tuple #[] ∧ endM at_ σ 0 bs'
  | _ => False
theorem endM_at {at_ : Nat → SI} {σ : AS} : ∀ {bs : List (Nat × List (List AV))} {k : Nat}, endM at_ σ k bs → ∀ {i : Nat} {b : Nat × List (List AV)}, bs[i]? = some b → σ.mem (k + i) = some (.row true b.1 b.2) ∧ σ.mem (k + i + 8) = some (.pin (k + i) (at_ (k + i)))
  | [], k, _, i, b, h => by simp at h
  | b' :: bs, k, h, 0, b, hb => by
    simp at hb; subst hb
    obtain ⟨h1, h2, _⟩ := h
    split at h1
    case h_2 => exact h1.elim
    rename_i sz es hm
    obtain ⟨rfl, rfl⟩ := h1
    exact ⟨hm, h2⟩
  | b' :: bs, k, h, i + 1, b, hb => by
    have := endM_at h.2.2 (i := i) (b := b) (by simpa using hb)
    rw [show k + (i + 1) = k + 1 + i by omega]
    exact this

theorem mutf_of_vc {P : Program} {E : Tab} (hE : E.ok P) {f : FuncId} {fn : Func} {x : Code} {args : List T} {bs bs' : List (Nat × List (List AV))} {r : Value} (hmix : P.follows .mixedOrders = true) (hf : P.funcs[f]? = some fn) (hb : fn.body = some x) (hname : (fn.name == "runtime.NumGoroutine") = false)
    (hok : okCode E fn.ntmps x = true) (hlen : args.length ≤ fn.ntmps) (hn8 : bs.length ≤ 8) (hnb : nbRows bs = true) (hnb' : nbRows bs' = true) (hbl : bs'.length = bs.length)
    (h : ∀ at_ : Nat → SI, vcCode P E x (finM E fn.results.toList at_ bs' r) (fun _ _ => False) (finM E fn.results.toList at_ bs' r) ⟨fun t => args.getD t .dead, memI at_ bs⟩) : MutF P f args bs bs' r := by
  refine ⟨⟨fn, hf, by simp [hb], hname⟩, hnb, hnb', hbl, fun w at_ F vs hargs hgl hrow hdisj hF => ?_⟩
  have hvl : vs.toList.length = args.length := by
    have : ∀ {c : Ctx} {ts : List T} {us : List Value}, RTL c w ts us → us.length = ts.length := by
      intro c ts
      induction ts with
      | nil => intro us h; cases us with | nil => rfl | cons => exact h.elim
      | cons t ts ih => intro us h; cases us with | nil => exact h.elim | cons u us => simp [ih h.2]
    exact this hargs
  have hat : ∀ {c : Ctx} {ts : List T} {us : List Value}, RTL c w ts us → ∀ t : Nat, RT c w (ts.getD t .dead) (us.getD t undef) := by
    intro c ts
    induction ts with
    | nil => intro us h t; trivial
    | cons t ts ih =>
      intro us h k
      cases us with
      | nil => exact h.elim
      | cons u us =>
        cases k with
        | zero => exact h.1
        | succ k => exact ih h.2 k
  refine calls_of_wp hf hb ?_
  let c : Ctx := ⟨fun s => if s < bs.length then some (at_ s) else if s < 8 then none else if s - 8 < bs.length then some .nil else none, fun k => ∃ i, F i k ∧ ¬ (at_ i).isTop k⟩
  have hctop : ∀ s k, c.top s k ↔ s < bs.length ∧ (at_ s).isTop k := fun s k => by
    simp only [Ctx.top, c]
    by_cases hs : s < bs.length
    · simp only [if_pos hs, Option.some.injEq]
      cases at_ s with
      | var b => simp [SI.isTop, hs]; exact eq_comm
      | row b cap sz => simp [SI.isTop, hs]; exact eq_comm
      | nil => simp [SI.isTop]
    · simp only [if_neg hs]
      by_cases h8 : s < 8
      · simp [h8, hs]
      · by_cases h9 : s - 8 < bs.length
        · simp [h8, h9, hs]
        · simp [h8, h9, hs]
  have hH : H w (fun k => ∃ i, F i k) fn.ntmps ⟨fun t => args.getD t .dead, memI at_ bs⟩ { tmps := vs ++ Array.replicate (fn.ntmps - vs.size) undef, defers := [] } w c F := by
    have hvs : vs.size = args.length := by simpa using hvl
    refine { gl := hgl, keeps := ⟨rfl, rfl, rfl, Nat.le_refl _, fun _ _ _ => rfl, fun _ => Nat.le_refl _⟩, size := by simp; omega, defers := rfl, tm := fun t => ?_, mem := fun s k hk => ?_, dom := fun s hs => ?_, disj := hdisj, new := fun s k hk => ⟨.inr ⟨s, hk⟩, (hF s k hk).2⟩, imm := fun k ⟨i, hi, _⟩ => (hF i k hi).2, inn := fun s k hk => ?_, par := fun s v x hk => (by
      simp only [memI] at hk
      split at hk
      · cases hk
      · split at hk
        · cases hk
        · split at hk <;> cases hk) }
    · have := hat hargs t
      have h2 : RT c w (args.getD t .dead) (vs.toList.getD t undef) := this.mono (fun s i hi => by
        simp only [cAt] at hi
        split at hi
        · rename_i hs; simp only [c, if_pos hs]; exact hi
        · cases hi) (fun _ h => False.elim h) (fun _ h => False.elim h)
      by_cases ht : t < vs.size
      · have e : (vs ++ Array.replicate (fn.ntmps - vs.size) undef).getD t undef = vs.toList.getD t undef := by
          rw [Array.getD_eq_getD_getElem?, Array.getElem?_append_left ht]
          simp
        rw [e]; exact h2
      · have e : args.getD t .dead = .dead := by rw [List.getD_eq_getElem?_getD, List.getElem?_eq_none (by omega)]; rfl
        show RT _ _ (args.getD t .dead) _
        rw [e]; trivial
    · simp only [memI] at hk
      cases hq : bs[s]? with
      | some b =>
        rw [hq] at hk
        cases hk
        have hs := (List.getElem?_eq_some_iff.1 hq).1
        exact (hrow s b.1 b.2 hq).blk (nbRows_at hnb hq) (by simp only [c, if_pos hs])
      | none =>
        rw [hq] at hk
        have hs : ¬ s < bs.length := by simpa using hq
        simp only at hk
        split at hk
        · cases hk
        · rename_i h8
          split at hk
          · rename_i h9
            cases hk
            exact ⟨by simp only [c, if_neg hs, if_neg h8, if_pos h9], fun k hk => hs (hF s k hk).1, by simp only [c, if_pos h9]⟩
          · cases hk
    · simp only [memI] at hs
      cases hq : bs[s]? with
      | some b => rw [hq] at hs; cases hs
      | none =>
        rw [hq] at hs
        have hs' : ¬ s < bs.length := by simpa using hq
        refine ⟨?_, fun k hk => hs' (hF s k hk).1⟩
        simp only [c, if_neg hs']
        simp only at hs
        split at hs
        · rename_i h8; rw [if_pos h8]
        · rename_i h8
          split at hs
          · cases hs
          · rename_i h9; rw [if_neg h8, if_neg h9]
    · rw [hctop]
      constructor
      · rintro ⟨i, hi, ht⟩ ⟨_, h2⟩
        have := hdisj _ _ _ hi hk
        subst this
        exact ht h2
      · exact fun h1 => ⟨s, hk, fun ht => h1 ⟨(hF s k hk).1, ht⟩⟩
  have done : ∀ σ' a' w', Holds w (fun k => ∃ i, F i k) fn.ntmps σ' a' w' → finM E fn.results.toList at_ bs' r σ' → a'.defers = [] ∧ ∃ V, (results fn a'.tmps).run P w' = .ok V w' ∧ ∃ F' : Nat → Nat → Prop, Ending.returned V = .returned r ∧ (∀ i sz es, bs'[i]? = some (sz, es) → RowAt w' (at_ i) sz es (F' i)) ∧
      (∀ i j k, F' i k → F' j k → i = j) ∧ (∀ i k, F' i k → i < bs.length ∧ ((∃ j, F j k) ∨ w.heap.size ≤ k) ∧ k < w'.heap.size) ∧ Keeps (fun k => ∃ i, F i k) w w' := by
    rintro σ' a' w' ⟨c', F', h'⟩ hf'
    have key : ∃ xs, resVs E σ' fn.results.toList = some xs ∧ endM at_ σ' 0 bs' ∧ (xs = [] ∧ r = .tuple #[] ∨ ∃ v, xs = [(false, [.lit v])] ∧ r = v) := by
      unfold finM at hf'
      split at hf'
      · rename_i v hv; exact ⟨_, hv, hf'.2, .inr ⟨v, rfl, hf'.1⟩⟩
      · rename_i hv; exact ⟨_, hv, hf'.2, .inl ⟨rfl, hf'.1⟩⟩
      · exact hf'.elim
    obtain ⟨xs, hv, hend, hx⟩ := key
    obtain ⟨Vs, h1, h2, h3⟩ := resVs_ok hE h' hv
    have hrun : (results fn a'.tmps).run P w' = .ok (if h : Vs.toArray.size = 1 then Vs.toArray[0] else .tuple Vs.toArray) w' := by
      have e : results fn a'.tmps = (do let vs ← fn.results.mapM (resRun a'.tmps); pure (if h : vs.size = 1 then vs[0] else .tuple vs)) := by
        unfold results
        rfl
      rw [e, Array.mapM_eq_mapM_toList]
      simp only [Sem.run_bind, Sem.run_map, Result.andThen_ok, h1, Sem.run_pure]
    refine ⟨h'.defers, _, hrun, fun i k => i < bs.length ∧ F' i k, ?_, fun i sz es hb => ?_, fun i j k h4 h5 => h'.disj _ _ _ h4.2 h5.2, fun i k hk => ⟨hk.1, (h'.new i k hk.2).1.symm.imp id id, (h'.new i k hk.2).2⟩, h'.keeps⟩
    · rcases hx with ⟨rfl, rfl⟩ | ⟨v, rfl, rfl⟩
      · match Vs, h2 with
        | [], h2 => rfl
      · match Vs, h2 with
        | [u], h2 =>
          have h4 := h2.1.1
          cases h4
          rfl
    · have hil : i < bs.length := by rw [← hbl]; exact (List.getElem?_eq_some_iff.1 hb).1
      obtain ⟨h4, h5⟩ := endM_at hend hb
      rw [Nat.zero_add] at h4 h5
      obtain ⟨j, h6, h7⟩ := (h'.mem i _ h4).rowAt (nbRows_at hnb' hb)
      have h8 := (h'.mem (i + 8) _ h5).2.2
      rw [h6] at h8
      cases h8
      show RowAt w' (at_ i) sz es (fun k => i < bs.length ∧ F' i k)
      rw [show (fun k => i < bs.length ∧ F' i k) = F' i from funext fun k => propext (and_iff_right hil)]
      exact h7
  exact vc_ok hE hmix x (n := fn.ntmps) (w0 := w) (L := fun k => ∃ i, F i k) hok (fun σ' a' w' h1 h2 => done σ' a' w' h1 h2) (fun _ _ _ _ _ h => h.elim) (fun σ' a' w' h1 h2 => done σ' a' w' h1 h2) (h at_) ⟨_, _, hH⟩

theorem all_nil {α : Type} {Q : α → Prop} : ∀ p ∈ ([] : List α), Q p := fun p h => by cases h
theorem all_cons {α : Type} {Q : α → Prop} {a : α} {l : List α} (h : Q a) (h' : ∀ p ∈ l, Q p) : ∀ p ∈ a :: l, Q p := fun p hp => by
  cases hp with
  | head => exact h
  | tail _ hp => exact h' p hp
theorem ren_loc {ss : List Nat} {i s o l l' : Nat} (h : ss[i]? = some s) (hl : l' = l) : RenA ss (.loc i o l) (.loc s o l') := ⟨h, rfl, hl⟩
end Go.Proofs.YtjajnladldchcaaDoor
namespace Go.Proofs.YtjajnladldchcaaDoor
open Go.RowKit
set_option linter.unusedSimpArgs false
set_option linter.unusedVariables false

theorem eq_int {t : T} {k : IntKind} {a b : Int} (h : t = .one (.lit (.int k a))) (e : a = b) : t = .one (.lit (.int k b)) := by rw [h, e]
theorem eq_bool {t : T} {a b : Bool} (h : t = .one (.lit (.bool a))) (e : a = b) : t = .one (.lit (.bool b)) := by rw [h, e]
theorem eq_loc {t : T} {s o l l' : Nat} (h : t = .one (.loc s o l)) (e : l = l') : t = .one (.loc s o l') := by rw [h, e]
theorem eq_row {t : Option Blk} {p : Bool} {sz : Nat} {es es' : List (List AV)} (h : t = some (.row p sz es)) (e : es = es') : t = some (.row p sz es') := by rw [h, e]
def LG {α : Type} (I : α → Prop) (m : α → Nat) (S : α → AS) : AS → Nat → Prop := fun σ k => ∃ a, I a ∧ k = m a ∧ σ = S a
theorem lg_init {α : Type} {I : α → Prop} {m : α → Nat} {S : α → AS} {σ : AS} (a : α) (hI : I a) (h : Weak σ (S a)) : ∃ σ' k, Weak σ σ' ∧ LG I m S σ' k := ⟨_, _, h, a, hI, rfl, rfl⟩
theorem lg_back {α : Type} {I : α → Prop} {m : α → Nat} {S : α → AS} {σ : AS} {k : Nat} (a : α) (hI : I a) (hk : m a < k) (h : Weak σ (S a)) : ∃ σ' k', Weak σ σ' ∧ k' < k ∧ LG I m S σ' k' := ⟨_, _, h, hk, a, hI, rfl, rfl⟩

theorem la_lit {m : Nat → Option Blk} {n : Nat} {v u : Value} (h : u = v) : LendA m n (.lit v) (.lit u) := by
  subst h
  cases u with
  | slice A a b => cases A <;> cases a <;> cases b <;> cases n <;> exact Or.inl rfl
  | _ => cases n <;> exact Or.inl rfl
theorem la_cell {m : Nat → Option Blk} {n : Nat} {x : AV} (h : x.isCell = true) : LendA m n x x := by
  cases x with
  | lit v => exact la_lit rfl
  | row o sz es => exact la_row rfl rfl
  | _ => cases h
theorem all2_cell {m : Nat → Option Blk} {n : Nat} : ∀ {xs : List AV}, xs.all AV.isCell = true → all2 (LendA m n) xs xs
  | [], _ => trivial
  | x :: xs, h => by
    simp only [List.all_cons, Bool.and_eq_true] at h
    exact ⟨la_cell h.1, all2_cell h.2⟩
theorem lend_same {m : Nat → Option Blk} {xs ys : List AV} (e : ys = xs) (h : ys.all AV.isCell = true) : LendT m (.agg xs) (.agg ys) := by subst e; exact all2_cell h
theorem la_bor {m : Nat → Option Blk} {n : Nat} {x : AV} (h : x.isCell = true) : LendA m n x.bor x := by
  cases x with
  | lit v => exact la_lit rfl
  | row o sz es => exact la_row rfl rfl
  | _ => cases h
theorem all2_bor {m : Nat → Option Blk} {n : Nat} : ∀ {xs : List AV}, xs.all AV.isCell = true → all2 (LendA m n) (xs.map AV.bor) xs
  | [], _ => trivial
  | x :: xs, h => by
    simp only [List.all_cons, Bool.and_eq_true] at h
    exact ⟨la_bor h.1, all2_bor h.2⟩
theorem lend_bor {m : Nat → Option Blk} {xs ys : List AV} (e : xs = ys.map AV.bor) (h : ys.all AV.isCell = true) : LendT m (.agg xs) (.agg ys) := by subst e; exact all2_bor h
theorem lend_dead {m : Nat → Option Blk} {t : T} : LendT m t .dead := by cases t <;> trivial
theorem la_fn {m : Nat → Option Blk} {n : Nat} {f f' : FuncId} {caps caps' : List AV} (h : f' = f) (h2 : all2 (LendA m n) caps caps') : LendA m (n + 1) (.fn f caps) (.fn f' caps') := ⟨h, h2⟩
theorem at_mid {α : Type} {A B : List α} {x : α} {i : Nat} (h : A.length = i) : (A ++ x :: B)[i]? = some x := by subst h; simp
theorem set_mid {α : Type} {A B : List α} {x y : α} {i : Nat} (h : A.length = i) : A ++ y :: B = (A ++ x :: B).set i y := by subst h; simp
theorem at_map {α β : Type} {f : α → β} {l : List α} {i : Nat} (h : i < l.length) : (l.map f)[i]? = some (f l[i]) := by simp [h]
theorem closeTs_cons {m : Nat → Option Blk} {x y : Bool × List AV} {xs ys : List (Bool × List AV)} (h0 : x.1 = y.1) (h : closeL m x.2 y.2) (h' : closeTs m xs ys) : closeTs m (x :: xs) (y :: ys) := ⟨h0, h, h'⟩
theorem nbRow_map {α : Type} {f : α → List AV} (h : ∀ x, (f x).all (AV.nb 5) = true) (l : List α) : nbRow (l.map f) = true := by
  simp only [nbRow, List.all_eq_true, List.mem_map, forall_exists_index, and_imp]
  rintro e x _ rfl
  exact List.all_eq_true.1 (h x)
theorem sf_rows {es : List (List AV)} (h : nbRow es = true) : (es.all fun e => e.all fun x => x.nb 5 || x.safe) = true := by
  simp only [nbRow, List.all_eq_true] at h
  simp only [List.all_eq_true]
  intro e he x hx
  rw [h e he x hx]; rfl
theorem sf_row {p : Bool} {sz : Nat} {es : List (List AV)} (h : nbRow es = true) : (Blk.row p sz es).safe = true := sf_rows h
theorem sfm_cons {s : Nat} {k : Blk} {ml : List (Nat × Blk)} (h : k.safe = true) (h' : (ml.all fun p => p.2.safe) = true) : (((s, k) :: ml).all fun p => p.2.safe) = true := by simp [h, h']
theorem sfm_nil : (([] : List (Nat × Blk)).all fun p => p.2.safe) = true := rfl
theorem nbRows_cons {sz : Nat} {es : List (List AV)} {bs : List (Nat × List (List AV))} (h : nbRow es = true) (h' : nbRows bs = true) : nbRows ((sz, es) :: bs) = true := by simp only [nbRows, List.all_cons, Bool.and_eq_true]; exact ⟨h, h'⟩
theorem nbRows_nil : nbRows [] = true := rfl
theorem hasRows_nil {m : Nat → Option Blk} : hasRows m [] [] := trivial
theorem hasRows_cons {m : Nat → Option Blk} {s : Nat} {ss : List Nat} {b : Nat × List (List AV)} {bs : List (Nat × List (List AV))} (h : m s = some (.row true b.1 b.2)) (h' : hasRows m ss bs) : hasRows m (s :: ss) (b :: bs) := ⟨h, h'⟩
theorem rens_nil {ss : List Nat} : RenTs ss [] [] := trivial
theorem rens_cons {ss : List Nat} {x y : T} {xs ys : List T} (h : RenT ss x y) (h' : RenTs ss xs ys) : RenTs ss (x :: xs) (y :: ys) := ⟨h, h'⟩
theorem ren_one {ss : List Nat} {x y : AV} (h : RenA ss x y) : RenT ss (.one x) (.one y) := h
theorem ren_int {ss : List Nat} {k : IntKind} {a b : Int} (h : b = a) : RenA ss (.lit (.int k a)) (.lit (.int k b)) := by subst h; exact rfl
def litA (u : Nat → Value) (i : Nat) : AV → AV
  | .row _ _ _ => .lit (u i)
  | x => x
def litL (u : Nat → Value) : Nat → List AV → List AV
  | _, [] => []
  | i, x :: xs => litA u i x :: litL u (i + 1) xs
def T.wid : T → Nat
  | .one _ => 1
  | .agg xs => xs.length
  | _ => 0
def litT (u : Nat → Value) (i : Nat) : T → T
  | .one x => .one (litA u i x)
  | .agg xs => .agg (litL u i xs)
  | t => t
def litTs (u : Nat → Value) : Nat → List T → List T
  | _, [] => []
  | i, t :: ts => litT u i t :: litTs u (i + t.wid) ts
def flatT : T → List AV
  | .one x => [x]
  | .agg xs => xs
  | _ => []
def flatTs : List T → List AV
  | [] => []
  | t :: ts => flatT t ++ flatTs ts
def parM (u : Nat → Value) (args : List T) (s : Nat) : Option Blk := match (flatTs args)[s]? with
  | some (.row o sz es) => some (.par (u s) (.row o sz es))
  | _ => none
def flatV : List T → List Value → List Value
  | .one _ :: ts, v :: vs => v :: flatV ts vs
  | .agg _ :: ts, .agg us :: vs => us.toList ++ flatV ts vs
  | _ :: ts, _ :: vs => flatV ts vs
  | _, _ => []

section
variable {P : Program} {w : World} {I : Nat → Prop}
theorem litA_ok {c : Ctx} (hc : ∀ b, I b → c.I b) {u : Nat → Value} {i : Nat} {x : AV} {v : Value} (h : R (c0 I) w x v) (hu : u i = v) : R c w (litA u i x) v := by
  have h' : R c w x v := h.mono (fun s j hs => by cases hs) hc (fun _ _ => rfl)
  cases x <;> first | exact h' | (subst hu; exact .lit _)
theorem litL_ok {c : Ctx} (hc : ∀ b, I b → c.I b) {u : Nat → Value} : ∀ {xs : List AV} {vs : List Value} {i : Nat}, RL (c0 I) w xs vs → (∀ j v, vs[j]? = some v → u (i + j) = v) → RL c w (litL u i xs) vs
  | [], [], _, _, _ => trivial
  | x :: xs, v :: vs, i, h, hu => ⟨⟨litA_ok hc h.1.1 (hu 0 v rfl), h.1.2⟩, litL_ok hc h.2 fun j v' hv => by have := hu (j + 1) v' (by simpa using hv); rw [show i + 1 + j = i + (j + 1) by omega]; exact this⟩
theorem litTs_ok {c : Ctx} (hc : ∀ b, I b → c.I b) {u : Nat → Value} : ∀ {ts : List T} {vs : List Value} {i : Nat}, (ts.all fun t => match t with | .one _ => true | .agg _ => true | _ => false) = true → RTL (c0 I) w ts vs → (∀ j v, (flatV ts vs)[j]? = some v → u (i + j) = v) → RTL c w (litTs u i ts) vs
  | [], [], _, _, _, _ => trivial
  | .one x :: ts, v :: vs, i, ha, h, hu => ⟨⟨litA_ok hc h.1.1 (hu 0 v rfl), h.1.2⟩, litTs_ok hc (by simpa using ha) h.2 fun j v' hv => by have := hu (j + 1) v' (by simpa [flatV] using hv); rw [show i + T.wid (.one x) + j = i + (j + 1) by simp only [T.wid]; omega]; exact this⟩
  | .agg xs :: ts, .agg us :: vs, i, ha, h, hu => ⟨litL_ok hc h.1 fun j v' hv => hu j v' (by simp only [flatV]; rw [List.getElem?_append_left (by exact (List.getElem?_eq_some_iff.1 hv).1)]; exact hv), litTs_ok hc (by simpa using ha) h.2 fun j v' hv => by
      have hl : xs.length = us.toList.length := RL.length h.1
      have := hu (us.toList.length + j) v' (by simp only [flatV]; rw [List.getElem?_append_right (by omega)]; simpa using hv)
      rw [show i + T.wid (.agg xs) + j = i + (us.toList.length + j) by simp only [T.wid]; omega]; exact this⟩
theorem flat_ok {c : Ctx} : ∀ {ts : List T} {vs : List Value}, (ts.all fun t => match t with | .one _ => true | .agg _ => true | _ => false) = true → RTL c w ts vs → RL c w (flatTs ts) (flatV ts vs)
  | [], [], _, _ => trivial
  | .one x :: ts, v :: vs, ha, h => ⟨h.1, flat_ok (by simpa using ha) h.2⟩
  | .agg xs :: ts, .agg us :: vs, ha, h => by
    simp only [flatTs, flatT, flatV]
    have h2 := flat_ok (ts := ts) (vs := vs) (by simpa using ha) h.2
    have key : ∀ {xs ys : List AV} {vs us : List Value}, RL c w xs vs → RL c w ys us → RL c w (xs ++ ys) (vs ++ us) := by
      intro xs
      induction xs with
      | nil => intro ys vs us h h'; cases vs with | nil => exact h' | cons => exact h.elim
      | cons x xs ih => intro ys vs us h h'; cases vs with | nil => exact h.elim | cons v vs => exact ⟨h.1, ih h.2 h'⟩
    exact key h.1 h2

theorem law_of_vc {E : Tab} (hE : E.ok P) {f : FuncId} {fn : Func} {x : Code} {args : List T} {r : T} (hmix : P.follows .mixedOrders = true) (hf : P.funcs[f]? = some fn) (hb : fn.body = some x) (hname : (fn.name == "runtime.NumGoroutine") = false)
    (hok : okCode E fn.ntmps x = true) (hlen : args.length ≤ fn.ntmps) (hnb : r.nb = true) (ha : (args.all fun t => match t with | .one _ => true | .agg _ => true | _ => false) = true)
    (h : ∀ u : Nat → Value, vcCode P E x (fin E fn.results.toList r) (fun _ _ => False) (fin E fn.results.toList r) ⟨fun t => (litTs u 0 args).getD t .dead, parM u args⟩) : Fun1 P f args r := by
  refine ⟨⟨fn, hf, by simp [hb], hname⟩, hnb, fun w I vs hI hgl hargs => ?_⟩
  let u : Nat → Value := fun i => (flatV args vs.toList).getD i default
  have hu : ∀ j v, (flatV args vs.toList)[j]? = some v → u j = v := fun j v hv => by simp [u, List.getD_eq_getElem?_getD, hv]
  let c : Ctx := ⟨fun s => if (parM u args s).isSome then some .nil else none, fun k => k < w.heap.size⟩
  have hargs' : RTL c w (litTs u 0 args) vs.toList := litTs_ok (c := c) hI ha hargs (fun j v hv => by rw [Nat.zero_add]; exact hu j v hv)
  have hll : ∀ {ts : List T} {i : Nat}, (litTs u i ts).length = ts.length := by
    intro ts
    induction ts with
    | nil => intro i; rfl
    | cons t ts ih => intro i; simp [litTs, ih]
  have hvl : vs.toList.length = args.length := by
    have : ∀ {ts : List T} {us : List Value}, RTL (c0 I) w ts us → us.length = ts.length := by
      intro ts
      induction ts with
      | nil => intro us h; cases us with | nil => rfl | cons => exact h.elim
      | cons t ts ih => intro us h; cases us with | nil => exact h.elim | cons u us => simp [ih h.2]
    exact this hargs
  have hat : ∀ {ts : List T} {us : List Value}, RTL c w ts us → ∀ t : Nat, RT c w (ts.getD t .dead) (us.getD t undef) := by
    intro ts
    induction ts with
    | nil => intro us h t; trivial
    | cons t ts ih =>
      intro us h k
      cases us with
      | nil => exact h.elim
      | cons u us =>
        cases k with
        | zero => exact h.1
        | succ k => exact ih h.2 k
  refine calls_of_wp hf hb ?_
  have hH : H w (fun _ => False) fn.ntmps ⟨fun t => (litTs u 0 args).getD t .dead, parM u args⟩ { tmps := vs ++ Array.replicate (fn.ntmps - vs.size) undef, defers := [] } w c (fun _ _ => False) := by
    have hvs : vs.size = args.length := by simpa using hvl
    refine { gl := hgl.mono (fun b hb => ⟨hI b hb, fun h => h⟩) (Nat.le_refl _) (fun _ _ => rfl), keeps := ⟨rfl, rfl, rfl, Nat.le_refl _, fun _ _ _ => rfl, fun _ => Nat.le_refl _⟩, size := by simp; omega, defers := rfl, tm := fun t => ?_, mem := fun s k hk => ?_, dom := fun s hs => ?_, disj := fun _ _ _ h => h.elim, new := fun _ _ h => h.elim, imm := fun _ hk => hk, inn := fun _ _ h => h.elim, par := fun s v x hk => ?_ }
    · have := hat hargs' t
      by_cases ht : t < vs.size
      · have e : (vs ++ Array.replicate (fn.ntmps - vs.size) undef).getD t undef = vs.toList.getD t undef := by
          rw [Array.getD_eq_getD_getElem?, Array.getElem?_append_left ht]
          simp
        rw [e]; exact this
      · have e : (litTs u 0 args).getD t .dead = .dead := by rw [List.getD_eq_getElem?_getD, List.getElem?_eq_none (by rw [hll]; omega)]; rfl
        show RT _ _ ((litTs u 0 args).getD t .dead) _
        rw [e]; trivial
    · replace hk : parM u args s = some k := hk
      have hat0 : c.at_ s = some .nil := by simp [c, hk]
      unfold parM at hk
      split at hk
      · cases hk; exact ⟨hat0, fun _ h => h⟩
      · cases hk
    · replace hs : parM u args s = none := hs
      exact ⟨by simp [c, hs], fun _ h => h⟩
    · replace hk : parM u args s = some (.par v x) := hk
      unfold parM at hk
      split at hk
      · rename_i o sz es hg
        · cases hk
          refine ⟨rfl, ?_, fun k hk => hk.1⟩
          have hfl := flat_ok ha hargs
          have hi := (List.getElem?_eq_some_iff.1 hg).1
          have hl := RL.length hfl
          have hv : (flatV args vs.toList)[s]? = some ((flatV args vs.toList)[s]'(by omega)) := by simp
          have := (hfl.at hg hv).1
          rw [hu _ _ hv]
          exact R.free (c := c0 I) (fun b (hb : I b) => (show oldB w (fun _ => False) b from ⟨hI b hb, fun h => h⟩)) (fun _ _ => rfl) this rfl
      · cases hk
  have done : ∀ σ' a' w', Holds w (fun _ => False) fn.ntmps σ' a' w' → fin E fn.results.toList r σ' → a'.defers = [] ∧ ∃ V, (results fn a'.tmps).run P w' = .ok V w' ∧ ∃ v F, Ending.returned V = .returned v ∧ ROT' (c0 I) w' F r v ∧ (∀ k, F k → w.heap.size ≤ k ∧ k < w'.heap.size) ∧ Bel w.heap.size w w' := by
    rintro σ' a' w' ⟨c', F', h'⟩ hf'
    obtain ⟨V, h1, G, h2, h3⟩ := fin_ok hE h' hf'
    refine ⟨h'.defers, V, h1, V, G, rfl, h2.nb hnb, fun k hk => ?_, ⟨h'.keeps.os, h'.keeps.tape, h'.keeps.output, h'.keeps.size, fun k hk => h'.keeps.block k hk (fun h => h), h'.keeps.dr⟩⟩
    obtain ⟨s, hs⟩ := h3 k hk
    have := h'.new s k hs
    exact ⟨this.1.resolve_right (fun h => h), this.2⟩
  exact vc_ok hE hmix x (n := fn.ntmps) (w0 := w) (L := fun _ => False) hok (fun σ' a' w' h1 h2 => done σ' a' w' h1 h2) (fun _ _ _ _ _ h => h.elim) (fun σ' a' w' h1 h2 => done σ' a' w' h1 h2) (h u) ⟨_, _, hH⟩
end
end Go.Proofs.YtjajnladldchcaaDoor
namespace Go.Proofs.YtjajnladldchcaaDoor
open Go.RowKit
set_option linter.unusedSimpArgs false
set_option linter.unusedVariables false
set_option maxHeartbeats 2000000

section
variable {P : Program} {w0 w : World} {L : Nat → Prop} {n : Nat} {σ : AS} {a : Act} {c : Ctx} {F : Nat → Nat → Prop} {E : Tab}

def AS.enter (σ : AS) (n : Nat) (args : List T) : AS := ⟨fun k => if k < n then args.getD k .dead else σ.tm (k - n), σ.mem⟩
end
end Go.Proofs.YtjajnladldchcaaDoor
namespace Go.Proofs.YtjajnladldchcaaDoor
open Go.RowKit
set_option linter.unusedSimpArgs false
set_option linter.unusedVariables false
set_option maxHeartbeats 2000000

section
variable {w0 w : World} {L : Nat → Prop} {n : Nat} {σ : AS} {a : Act} {c : Ctx} {F : Nat → Nat → Prop} {p q : Nat}

theorem RO.cell {x : AV} {v : Value} {G : Nat → Prop} (h : RO c w G x v) : x.isCell = true := by
  cases h with
  | plain h1 _ _ => cases x <;> first | rfl | simp [AV.isData] at h1
  | nil => rfl
  | own => rfl
end
end Go.Proofs.YtjajnladldchcaaDoor
namespace Go.Proofs.YtjajnladldchcaaDoor
open Go.RowKit
set_option linter.unusedSimpArgs false
set_option linter.unusedVariables false
def eStr (s : ByteArray) : List AV := [.lit (.string s)]
def markLoop (k : Nat) (out : ByteArray) : ByteArray := if _h : k = 0 then out else markLoop (k / 10) (⟨#[UInt8.ofNat (48 + k % 10)]⟩ ++ out)
termination_by k
decreasing_by omega
def markStr (k : Nat) : ByteArray := ⟨#[109]⟩ ++ markLoop k ⟨#[]⟩
def mrkT (_ : ByteArray) (k : Nat) : ByteArray := markStr k
def mkL {α : Type} (mk : α → Nat → α) (cn : α → Nat) : List α → Nat → List α
  | [], _ => []
  | x :: l, k => mk x k :: mkL mk cn l (k + cn x)
def cnL {α : Type} (cn : α → Nat) (l : List α) : Nat := (l.map cn).sum
theorem mkL_length {α : Type} {mk : α → Nat → α} {cn : α → Nat} : ∀ {l : List α} {k : Nat}, (mkL mk cn l k).length = l.length
  | [], _ => rfl
  | _ :: l, k => by simp [mkL, mkL_length (l := l)]
theorem mkL_append {α : Type} {mk : α → Nat → α} {cn : α → Nat} : ∀ {l l' : List α} {k : Nat}, mkL mk cn (l ++ l') k = mkL mk cn l k ++ mkL mk cn l' (k + cnL cn l)
  | [], _, k => by simp [mkL, cnL]
  | x :: l, l', k => by simp [mkL, cnL, mkL_append (l := l), Nat.add_assoc]
theorem cnL_append {α : Type} {cn : α → Nat} {l l' : List α} : cnL cn (l ++ l') = cnL cn l + cnL cn l' := by simp [cnL]
theorem sum_take_le {α : Type} (f : α → Nat) (l : List α) (i : Nat) : ((l.take i).map f).sum ≤ (l.map f).sum := by
  conv => rhs; rw [← List.take_append_drop i l]
  rw [List.map_append, List.sum_append]; omega
theorem cnL_take_succ {α : Type} {cn : α → Nat} {l : List α} {i : Nat} (h : i < l.length) : cnL cn (l.take (i + 1)) = cnL cn (l.take i) + cn l[i] := by rw [List.take_succ_eq_append_getElem h, cnL_append]; simp [cnL]
theorem cnL_take_le {α : Type} {cn : α → Nat} {l : List α} {i : Nat} : cnL cn (l.take i) ≤ cnL cn l := sum_take_le cn l i
theorem mkL_take_succ {α : Type} {mk : α → Nat → α} {cn : α → Nat} {l : List α} {i k : Nat} (h : i < l.length) : mkL mk cn (l.take (i + 1)) k = mkL mk cn (l.take i) k ++ [mk l[i] (k + cnL cn (l.take i))] := by rw [List.take_succ_eq_append_getElem h, mkL_append]; rfl
theorem mkL_get {α : Type} {mk : α → Nat → α} {cn : α → Nat} {l : List α} {i k : Nat} (h : i < l.length) : (mkL mk cn l k)[i]? = some (mk l[i] (k + cnL cn (l.take i))) := by
  have h1 : l = l.take i ++ l[i] :: l.drop (i + 1) := by rw [← List.drop_eq_getElem_cons h, List.take_append_drop]
  conv => lhs; rw [h1]
  rw [mkL_append]
  rw [List.getElem?_append_right (by rw [mkL_length, List.length_take]; omega)]
  rw [mkL_length, List.length_take, show i - min i l.length = 0 by omega]
  rfl
theorem eStr_nb (x : ByteArray) : (eStr x).all (AV.nb 5) = true := rfl
theorem hypStringS_of (l : List ByteArray) (h : l.length ≤ 4294967296 ∧ ∀ y ∈ l, y.size ≤ 4294967296) : l.length ≤ 4611686018427387904 := by
  have := h.1; omega
end Go.Proofs.YtjajnladldchcaaDoor
namespace Go.Proofs.YtjajnladldchcaaDoor
open Go.RowKit
def r0 : TyRow := ⟨some (1, false), [], none, none, .other⟩
theorem row0 : rowOf Tryd.prog 0 = some r0 := by kernel_rfl
def r1 : TyRow := ⟨some (1, false), [], none, some [.nilFunc], .other⟩
theorem row1 : rowOf Tryd.prog 1 = some r1 := by kernel_rfl
def r2 : TyRow := ⟨some (1, false), [], none, some [.int .i64 0], .int .i64⟩
theorem row2 : rowOf Tryd.prog 2 = some r2 := by kernel_rfl
def r3 : TyRow := ⟨some (1, false), [], none, some [.int .i64 0], .int .i64⟩
theorem row3 : rowOf Tryd.prog 3 = some r3 := by kernel_rfl
def r4 : TyRow := ⟨some (1, false), [], none, some [.bool false], .bool⟩
theorem row4 : rowOf Tryd.prog 4 = some r4 := by kernel_rfl
def r5 : TyRow := ⟨some (1, false), [], none, some [.int .u8 0], .int .u8⟩
theorem row5 : rowOf Tryd.prog 5 = some r5 := by kernel_rfl
def r6 : TyRow := ⟨some (1, false), [], none, some [.int .u8 0], .int .u8⟩
theorem row6 : rowOf Tryd.prog 6 = some r6 := by kernel_rfl
def r7 : TyRow := ⟨some (4, true), [some (0, 1, false), some (1, 1, false), some (2, 1, false), some (3, 1, false)], none, some [.int .i64 0, .int .i64 0, .bool false, .int .u8 0], .struct 4⟩
theorem row7 : rowOf Tryd.prog 7 = some r7 := by kernel_rfl
def r8 : TyRow := ⟨some (4, true), [some (0, 1, false), some (1, 1, false), some (2, 1, false), some (3, 1, false)], none, some [.int .i64 0, .int .i64 0, .bool false, .int .u8 0], .struct 4⟩
theorem row8 : rowOf Tryd.prog 8 = some r8 := by kernel_rfl
def r9 : TyRow := ⟨some (1, false), [], none, some [.string .empty], .str⟩
theorem row9 : rowOf Tryd.prog 9 = some r9 := by kernel_rfl
def r10 : TyRow := ⟨some (1, false), [], none, some [.string .empty], .str⟩
theorem row10 : rowOf Tryd.prog 10 = some r10 := by kernel_rfl
def r11 : TyRow := ⟨some (1, false), [], none, some [.string .empty], .str⟩
theorem row11 : rowOf Tryd.prog 11 = some r11 := by kernel_rfl
def r12 : TyRow := ⟨some (1, false), [], none, some [.int .u64 0], .int .u64⟩
theorem row12 : rowOf Tryd.prog 12 = some r12 := by kernel_rfl
def r13 : TyRow := ⟨some (2, true), [some (0, 1, false), some (1, 1, false)], none, some [.string .empty, .int .u64 0], .struct 2⟩
theorem row13 : rowOf Tryd.prog 13 = some r13 := by kernel_rfl
def r14 : TyRow := ⟨some (2, true), [some (0, 1, false), some (1, 1, false)], none, some [.string .empty, .int .u64 0], .struct 2⟩
theorem row14 : rowOf Tryd.prog 14 = some r14 := by kernel_rfl
def r15 : TyRow := ⟨some (1, false), [], none, some [.pointer none], .other⟩
theorem row15 : rowOf Tryd.prog 15 = some r15 := by kernel_rfl
def r16 : TyRow := ⟨some (1, false), [], none, some [.pointer none], .other⟩
theorem row16 : rowOf Tryd.prog 16 = some r16 := by kernel_rfl
def r17 : TyRow := ⟨some (1, false), [], none, some [.pointer none], .other⟩
theorem row17 : rowOf Tryd.prog 17 = some r17 := by kernel_rfl
def r18 : TyRow := ⟨some (1, true), [some (0, 1, false)], none, some [.pointer none], .struct 1⟩
theorem row18 : rowOf Tryd.prog 18 = some r18 := by kernel_rfl
def r19 : TyRow := ⟨some (1, true), [some (0, 1, false)], none, some [.pointer none], .struct 1⟩
theorem row19 : rowOf Tryd.prog 19 = some r19 := by kernel_rfl
def r20 : TyRow := ⟨some (1, false), [], none, some [.nilIface], .other⟩
theorem row20 : rowOf Tryd.prog 20 = some r20 := by kernel_rfl
def r21 : TyRow := ⟨some (1, false), [], none, some [.int .i32 0], .int .i32⟩
theorem row21 : rowOf Tryd.prog 21 = some r21 := by kernel_rfl
def r22 : TyRow := ⟨some (1, false), [], some (9, 1, 16), some [.slice none 0 0], .sl⟩
theorem row22 : rowOf Tryd.prog 22 = some r22 := by kernel_rfl
def r23 : TyRow := ⟨some (1, false), [], none, some [.nilFunc], .other⟩
theorem row23 : rowOf Tryd.prog 23 = some r23 := by kernel_rfl
def r24 : TyRow := ⟨some (1, false), [], none, some [.nilFunc], .other⟩
theorem row24 : rowOf Tryd.prog 24 = some r24 := by kernel_rfl
def r25 : TyRow := ⟨some (1, false), [], none, some [.nilFunc], .other⟩
theorem row25 : rowOf Tryd.prog 25 = some r25 := by kernel_rfl
def r26 : TyRow := ⟨some (1, false), [], none, some [.nilFunc], .other⟩
theorem row26 : rowOf Tryd.prog 26 = some r26 := by kernel_rfl
def r27 : TyRow := ⟨some (1, false), [], none, some [.map none], .other⟩
theorem row27 : rowOf Tryd.prog 27 = some r27 := by kernel_rfl
def r28 : TyRow := ⟨some (1, false), [], none, some [.nilFunc], .other⟩
theorem row28 : rowOf Tryd.prog 28 = some r28 := by kernel_rfl
def r29 : TyRow := ⟨some (1, false), [], none, some [.nilFunc], .other⟩
theorem row29 : rowOf Tryd.prog 29 = some r29 := by kernel_rfl
def r30 : TyRow := ⟨some (1, false), [], none, some [.nilFunc], .other⟩
theorem row30 : rowOf Tryd.prog 30 = some r30 := by kernel_rfl
def r31 : TyRow := ⟨some (1, false), [], none, some [.nilFunc], .other⟩
theorem row31 : rowOf Tryd.prog 31 = some r31 := by kernel_rfl
def r32 : TyRow := ⟨some (1, false), [], none, some [.int .u64 0], .int .u64⟩
theorem row32 : rowOf Tryd.prog 32 = some r32 := by kernel_rfl
def r33 : TyRow := ⟨some (1, false), [], some (5, 1, 1), some [.slice none 0 0], .sl⟩
theorem row33 : rowOf Tryd.prog 33 = some r33 := by kernel_rfl
def r34 : TyRow := ⟨some (1, false), [], none, some [.nilFunc], .other⟩
theorem row34 : rowOf Tryd.prog 34 = some r34 := by kernel_rfl
def r35 : TyRow := ⟨some (1, false), [], none, some [.int .i64 0], .int .i64⟩
theorem row35 : rowOf Tryd.prog 35 = some r35 := by kernel_rfl
def r36 : TyRow := ⟨some (1, false), [], none, none, .other⟩
theorem row36 : rowOf Tryd.prog 36 = some r36 := by kernel_rfl
def r37 : TyRow := ⟨some (1, false), [], none, some [.nilFunc], .other⟩
theorem row37 : rowOf Tryd.prog 37 = some r37 := by kernel_rfl
def r38 : TyRow := ⟨some (1, false), [], none, some [.nilFunc], .other⟩
theorem row38 : rowOf Tryd.prog 38 = some r38 := by kernel_rfl
def r39 : TyRow := ⟨some (1, false), [], none, some [.nilFunc], .other⟩
theorem row39 : rowOf Tryd.prog 39 = some r39 := by kernel_rfl
def r40 : TyRow := ⟨some (1, false), [], none, some [.nilFunc], .other⟩
theorem row40 : rowOf Tryd.prog 40 = some r40 := by kernel_rfl
def r41 : TyRow := ⟨some (1, false), [], none, none, .other⟩
theorem row41 : rowOf Tryd.prog 41 = some r41 := by kernel_rfl
def r42 : TyRow := ⟨some (1, false), [], none, some [.nilFunc], .other⟩
theorem row42 : rowOf Tryd.prog 42 = some r42 := by kernel_rfl
def r43 : TyRow := ⟨some (1, false), [], none, some [.nilFunc], .other⟩
theorem row43 : rowOf Tryd.prog 43 = some r43 := by kernel_rfl
def r44 : TyRow := ⟨some (1, false), [], none, some [.int .u32 0], .int .u32⟩
theorem row44 : rowOf Tryd.prog 44 = some r44 := by kernel_rfl
def r45 : TyRow := ⟨some (1, false), [], none, some [.nilFunc], .other⟩
theorem row45 : rowOf Tryd.prog 45 = some r45 := by kernel_rfl
def r46 : TyRow := ⟨some (1, false), [], none, some [.int .u64 0], .int .u64⟩
theorem row46 : rowOf Tryd.prog 46 = some r46 := by kernel_rfl
def r47 : TyRow := ⟨some (1, false), [], none, some [.int .u64 0], .int .u64⟩
theorem row47 : rowOf Tryd.prog 47 = some r47 := by kernel_rfl
def r48 : TyRow := ⟨some (1, false), [], none, some [.nilFunc], .other⟩
theorem row48 : rowOf Tryd.prog 48 = some r48 := by kernel_rfl
def r49 : TyRow := ⟨some (1, false), [], none, some [.nilFunc], .other⟩
theorem row49 : rowOf Tryd.prog 49 = some r49 := by kernel_rfl
def r50 : TyRow := ⟨some (1, false), [], none, some [.nilFunc], .other⟩
theorem row50 : rowOf Tryd.prog 50 = some r50 := by kernel_rfl
def r51 : TyRow := ⟨some (1, false), [], none, some [.pointer none], .other⟩
theorem row51 : rowOf Tryd.prog 51 = some r51 := by kernel_rfl
def r52 : TyRow := ⟨some (1, false), [], none, some [.nilFunc], .other⟩
theorem row52 : rowOf Tryd.prog 52 = some r52 := by kernel_rfl
def r53 : TyRow := ⟨some (1, false), [], none, some [.nilFunc], .other⟩
theorem row53 : rowOf Tryd.prog 53 = some r53 := by kernel_rfl
def r54 : TyRow := ⟨some (1, false), [], none, some [.pointer none], .other⟩
theorem row54 : rowOf Tryd.prog 54 = some r54 := by kernel_rfl
def r55 : TyRow := ⟨some (1, false), [], none, none, .other⟩
theorem row55 : rowOf Tryd.prog 55 = some r55 := by kernel_rfl
def r56 : TyRow := ⟨some (1, false), [], none, some [.nilFunc], .other⟩
theorem row56 : rowOf Tryd.prog 56 = some r56 := by kernel_rfl
def r57 : TyRow := ⟨some (1, false), [], none, some [.nilFunc], .other⟩
theorem row57 : rowOf Tryd.prog 57 = some r57 := by kernel_rfl
def r58 : TyRow := ⟨some (4, true), [some (0, 1, false), some (1, 1, false), some (2, 1, false), some (3, 1, false)], none, some [.pointer none, .pointer none, .pointer none, .string .empty], .struct 4⟩
theorem row58 : rowOf Tryd.prog 58 = some r58 := by kernel_rfl
def r59 : TyRow := ⟨some (4, true), [some (0, 1, false), some (1, 1, false), some (2, 1, false), some (3, 1, false)], none, some [.pointer none, .pointer none, .pointer none, .string .empty], .struct 4⟩
theorem row59 : rowOf Tryd.prog 59 = some r59 := by kernel_rfl
def r60 : TyRow := ⟨some (0, true), [], none, some [], .arr 0 16⟩
theorem row60 : rowOf Tryd.prog 60 = some r60 := by kernel_rfl
def r61 : TyRow := ⟨some (0, true), [none], none, some [], .struct 1⟩
theorem row61 : rowOf Tryd.prog 61 = some r61 := by kernel_rfl
def r62 : TyRow := ⟨some (0, true), [none], none, some [], .struct 1⟩
theorem row62 : rowOf Tryd.prog 62 = some r62 := by kernel_rfl
def r63 : TyRow := ⟨some (1, false), [], none, some [.nilFunc], .other⟩
theorem row63 : rowOf Tryd.prog 63 = some r63 := by kernel_rfl
def r64 : TyRow := ⟨some (1, false), [], none, some [.int .u8 0], .int .u8⟩
theorem row64 : rowOf Tryd.prog 64 = some r64 := by kernel_rfl
def r65 : TyRow := ⟨some (1, false), [], none, some [.int .u8 0], .int .u8⟩
theorem row65 : rowOf Tryd.prog 65 = some r65 := by kernel_rfl
def r66 : TyRow := ⟨some (1, false), [], none, some [.nilFunc], .other⟩
theorem row66 : rowOf Tryd.prog 66 = some r66 := by kernel_rfl
def r67 : TyRow := ⟨some (1, false), [], none, some [.pointer none], .other⟩
theorem row67 : rowOf Tryd.prog 67 = some r67 := by kernel_rfl
def r68 : TyRow := ⟨some (1, false), [], none, some [.int .i32 0], .int .i32⟩
theorem row68 : rowOf Tryd.prog 68 = some r68 := by kernel_rfl
def r69 : TyRow := ⟨some (1, false), [], none, some [.int .i32 0], .int .i32⟩
theorem row69 : rowOf Tryd.prog 69 = some r69 := by kernel_rfl
def r70 : TyRow := ⟨some (11, true), [some (0, 1, false), some (1, 1, false), some (2, 1, false), some (3, 1, false), some (4, 1, false), some (5, 1, false), some (6, 1, false), some (7, 1, false), some (8, 1, false), some (9, 1, false), some (10, 1, false)], none, some [.int .u64 0, .int .u64 0, .int .u32 0, .int .u8 0, .int .u8 0, .int .u8 0, .int .u8 0, .nilFunc, .pointer none, .int .i32 0, .int .i32 0], .struct 11⟩
theorem row70 : rowOf Tryd.prog 70 = some r70 := by kernel_rfl
def r71 : TyRow := ⟨some (11, true), [some (0, 1, false), some (1, 1, false), some (2, 1, false), some (3, 1, false), some (4, 1, false), some (5, 1, false), some (6, 1, false), some (7, 1, false), some (8, 1, false), some (9, 1, false), some (10, 1, false)], none, some [.int .u64 0, .int .u64 0, .int .u32 0, .int .u8 0, .int .u8 0, .int .u8 0, .int .u8 0, .nilFunc, .pointer none, .int .i32 0, .int .i32 0], .struct 11⟩
theorem row71 : rowOf Tryd.prog 71 = some r71 := by kernel_rfl
def r72 : TyRow := ⟨some (1, false), [], none, some [.pointer none], .other⟩
theorem row72 : rowOf Tryd.prog 72 = some r72 := by kernel_rfl
def tab : Tab := (.node 36 r36 (.node 18 r18 (.node 9 r9 (.node 4 r4 (.node 2 r2 (.node 1 r1 (.node 0 r0 .nil .nil) .nil) (.node 3 r3 .nil .nil)) (.node 7 r7 (.node 6 r6 (.node 5 r5 .nil .nil) .nil) (.node 8 r8 .nil .nil))) (.node 14 r14 (.node 12 r12 (.node 11 r11 (.node 10 r10 .nil .nil) .nil) (.node 13 r13 .nil .nil)) (.node 16 r16 (.node 15 r15 .nil .nil) (.node 17 r17 .nil .nil)))) (.node 27 r27 (.node 23 r23 (.node 21 r21 (.node 20 r20 (.node 19 r19 .nil .nil) .nil) (.node 22 r22 .nil .nil)) (.node 25 r25 (.node 24 r24 .nil .nil) (.node 26 r26 .nil .nil))) (.node 32 r32 (.node 30 r30 (.node 29 r29 (.node 28 r28 .nil .nil) .nil) (.node 31 r31 .nil .nil)) (.node 34 r34 (.node 33 r33 .nil .nil) (.node 35 r35 .nil .nil))))) (.node 55 r55 (.node 46 r46 (.node 41 r41 (.node 39 r39 (.node 38 r38 (.node 37 r37 .nil .nil) .nil) (.node 40 r40 .nil .nil)) (.node 44 r44 (.node 43 r43 (.node 42 r42 .nil .nil) .nil) (.node 45 r45 .nil .nil))) (.node 51 r51 (.node 49 r49 (.node 48 r48 (.node 47 r47 .nil .nil) .nil) (.node 50 r50 .nil .nil)) (.node 53 r53 (.node 52 r52 .nil .nil) (.node 54 r54 .nil .nil)))) (.node 64 r64 (.node 60 r60 (.node 58 r58 (.node 57 r57 (.node 56 r56 .nil .nil) .nil) (.node 59 r59 .nil .nil)) (.node 62 r62 (.node 61 r61 .nil .nil) (.node 63 r63 .nil .nil))) (.node 69 r69 (.node 67 r67 (.node 66 r66 (.node 65 r65 .nil .nil) .nil) (.node 68 r68 .nil .nil)) (.node 71 r71 (.node 70 r70 .nil .nil) (.node 72 r72 .nil .nil))))))
theorem tab_ok : tab.ok Tryd.prog := ⟨row36, ⟨row18, ⟨row9, ⟨row4, ⟨row2, ⟨row1, ⟨row0, trivial, trivial⟩, trivial⟩, ⟨row3, trivial, trivial⟩⟩, ⟨row7, ⟨row6, ⟨row5, trivial, trivial⟩, trivial⟩, ⟨row8, trivial, trivial⟩⟩⟩, ⟨row14, ⟨row12, ⟨row11, ⟨row10, trivial, trivial⟩, trivial⟩, ⟨row13, trivial, trivial⟩⟩, ⟨row16, ⟨row15, trivial, trivial⟩, ⟨row17, trivial, trivial⟩⟩⟩⟩, ⟨row27, ⟨row23, ⟨row21, ⟨row20, ⟨row19, trivial, trivial⟩, trivial⟩, ⟨row22, trivial, trivial⟩⟩, ⟨row25, ⟨row24, trivial, trivial⟩, ⟨row26, trivial, trivial⟩⟩⟩, ⟨row32, ⟨row30, ⟨row29, ⟨row28, trivial, trivial⟩, trivial⟩, ⟨row31, trivial, trivial⟩⟩, ⟨row34, ⟨row33, trivial, trivial⟩, ⟨row35, trivial, trivial⟩⟩⟩⟩⟩, ⟨row55, ⟨row46, ⟨row41, ⟨row39, ⟨row38, ⟨row37, trivial, trivial⟩, trivial⟩, ⟨row40, trivial, trivial⟩⟩, ⟨row44, ⟨row43, ⟨row42, trivial, trivial⟩, trivial⟩, ⟨row45, trivial, trivial⟩⟩⟩, ⟨row51, ⟨row49, ⟨row48, ⟨row47, trivial, trivial⟩, trivial⟩, ⟨row50, trivial, trivial⟩⟩, ⟨row53, ⟨row52, trivial, trivial⟩, ⟨row54, trivial, trivial⟩⟩⟩⟩, ⟨row64, ⟨row60, ⟨row58, ⟨row57, ⟨row56, trivial, trivial⟩, trivial⟩, ⟨row59, trivial, trivial⟩⟩, ⟨row62, ⟨row61, trivial, trivial⟩, ⟨row63, trivial, trivial⟩⟩⟩, ⟨row69, ⟨row67, ⟨row66, ⟨row65, trivial, trivial⟩, trivial⟩, ⟨row68, trivial, trivial⟩⟩, ⟨row71, ⟨row70, trivial, trivial⟩, ⟨row72, trivial, trivial⟩⟩⟩⟩⟩⟩
theorem mix : Tryd.prog.follows .mixedOrders = true := by kernel_rfl
def tb : Tab := .marks [7, 9] [9] [] tab
theorem tb_ok : tb.ok Tryd.prog := tab_ok
end Go.Proofs.YtjajnladldchcaaDoor
namespace Go.Proofs.YtjajnladldchcaaDoor
open Go.RowKit
set_option linter.unusedSimpArgs false
set_option linter.unusedVariables false
set_option maxRecDepth 100000
theorem allsA {α : Type} {l : List α} {p : α → Prop} (h : ∀ x ∈ l, p x := by repeat (first | refine all_cons (by first | rfl | exact eq_int rfl (by first | rfl | omega | (simp; done) | (simp; omega)) | exact eq_loc rfl (by first | rfl | omega | (simp; done) | (simp; omega)) | exact eq_bool rfl (by simp_all)) ?_ | exact all_nil)) : ∀ x ∈ l, p x := h
theorem eqStringS_c (x : List ByteArray) (hl : x.length ≤ 4294967296) (hx : ∀ y ∈ x, y.size ≤ 4294967296) : Fun1 Tryd.prog 6 [.one (.row true 1 (x.map eStr)), .one (.row true 1 (x.map eStr))] (.one (.lit (.bool true))) := by
  refine fun1_of_vc tb_ok mix (fn := Tryd.f6) Tryd.func6 rfl (by kernel_rfl) (by kernel_rfl) (by simp [Tryd.f6]) (by rfl) ?_
  (conv => whnf)
  (first | (split <;> rename_i h <;> first | (exfalso; first | (simp at h; done) | (simp at h; omega) | (simp_all; done) | (simp_all; omega)) | (conv => whnf)) | skip)
  refine ⟨LG (fun i : Nat => i ≤ x.length) (fun i => x.length - i) (fun i => AS.of [(0, .one (.row true 1 (x.map eStr))), (1, .one (.row true 1 (x.map eStr))), (5, .one (.lit (.int .i64 (i : Nat))))] []), lg_init 0 (by omega) (weak_of allsA allsA rfl rfl), ?_⟩
  rintro σ k ⟨i, hi, rfl, rfl⟩
  refine ⟨_, Weak.refl _, ?_⟩
  (conv => whnf)
  (split <;> rename_i h <;> (try simp only [decide_eq_true_eq, decide_eq_false_iff_not, Bool.not_eq_true', Bool.not_eq_false', Bool.not_eq_true, Bool.not_eq_false, List.length_map] at h) <;> conv => whnf)
  · have hlt : i < x.length := by simpa using h
    refine ⟨i, rfl, _, at_map hlt, ?_⟩; (conv => whnf)
    refine ⟨i, rfl, _, at_map hlt, ?_⟩; (conv => whnf)
    (first | (split <;> rename_i h <;> first | (exfalso; first | (simp at h; done) | (simp at h; omega) | (simp_all; done) | (simp_all; omega)) | (conv => whnf)) | skip)
    refine ⟨((i + 1 : Nat) : Int), by rw [← wrap64_id] <;> omega, ?_⟩; (conv => whnf)
    exact lg_back (i + 1) (by omega) (by (try dsimp only); omega) (weak_of allsA allsA rfl rfl)
  · exact (by repeat' (first | exact trivial | exact close_int rfl | exact close_str rfl | exact close_bool rfl | exact close_int (by omega) | exact close_row rfl rfl (by first | rfl | simp) (by first | rfl | simp) | exact close_nil (by first | rfl | simp) | exact rfl | apply And.intro | apply closeTs_cons rfl))
end Go.Proofs.YtjajnladldchcaaDoor
