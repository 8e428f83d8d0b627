/- The abstract machine: a region, operation by operation. -/
import Derived.Test.YtlijeincckbdaaaB1
namespace Go.Proofs.Ytlijeincckbdaaa
open Go.RowKit
set_option linter.unusedSimpArgs false
set_option linter.unusedVariables false

def isEff (E : Tab) : Op → Bool
  | .store _ _ _ => true
  | .call c => match c.callee with
    | .builtin .append => true
    | .value (.func f) => E.wr.contains f
    | _ => false
  | _ => false

/-- The operations that write. -/
def ope (P : Program) (E : Tab) (site : Nat) (op : Op) (σ : AS) (K : AS → T → Prop) : Prop :=
  match op with
  | .store t x y => opStore E σ t (σ.get x) (σ.get y) fun σ' => K σ' (.tup [])
  | .call c => match c.callee, c.args.toList, c.argTypes.toList with
    | .builtin .append, [x, y], [t, t'] => if t = t' then opAppend E σ site t (σ.get x) (σ.get y) K else False
    | .value (.func f), args, _ => match E.own.contains f with
      | true => opOwn P f args σ K
      | false => opMark P f args σ K
    | _, _, _ => False
  | _ => False

/-- New places are new. -/
def vcNews (m : Nat → Option Blk) : News → Prop → Prop
  | [], K => K
  | (s, b) :: l, K => match m s with
    | none => (match !b.isPar && l.all fun y => y.1 != s with
      | true => vcNews m l K
      | false => False)
    | some _ => False

theorem vcNews_ok {m : Nat → Option Blk} {K : Prop} : ∀ {l : News}, vcNews m l K → Fresh m l ∧ (l.map (·.1)).Nodup ∧ K ∧ ∀ x ∈ l, x.2.isPar = false
  | [], h => ⟨(fun x hx => (by cases hx)), List.nodup_nil, h, (fun x hx => (by cases hx))⟩
  | (s, k) :: l, h => by
    simp only [vcNews] at h
    split at h
    · rename_i hs
      split at h
      · rename_i ha
        obtain ⟨h1, h2, h3, h4⟩ := vcNews_ok h
        simp only [Bool.and_eq_true, Bool.not_eq_true'] at ha
        obtain ⟨hp, ha⟩ := ha
        refine ⟨fun x hx => ?_, ?_, h3, fun x hx => ?_⟩
        · cases hx with
          | head => exact hs
          | tail _ hx => exact h1 x hx
        · simp only [List.map_cons, List.nodup_cons, List.mem_map, not_exists, not_and]
          refine ⟨fun y hy e => ?_, h2⟩
          have := List.all_eq_true.1 ha y hy
          simp [e] at this
        · cases hx with
          | head => exact hp
          | tail _ hx => exact h4 x hx
      · exact h.elim
    · exact h.elim

def vcOp (P : Program) (E : Tab) (o : Oper) (σ : AS) (K : AS → Prop) : Prop :=
  match isEff E o.op with
  | true => ope P E (siteOf o) o.op σ fun σ' v => K (σ'.put o.dst v)
  | false => opn P E (siteOf o) o.op σ.get σ.mem fun v news => vcNews σ.mem news (K ((σ.adds news).put o.dst v))

def gdst (ops : Array Oper) (j : Nat) : Option Nat := (ops[j]?).bind (·.dst)

/-- A region, in the order of its text. (By the recursor itself: then the kernel and the elaborator evaluate it alike.) -/
def vcOps (P : Program) (E : Tab) (ops : Array Oper) (l : List Oper) : AS → (AS → Prop) → Prop :=
  List.rec (motive := fun _ => AS → (AS → Prop) → Prop) (fun σ Q => Q σ) (fun o _ ih σ Q => match o.guard with
    | none => vcOp P E o σ fun σ' => ih σ' Q
    | some (j, want) => match isEff E o.op with
      | true => False
      | false => match gdst ops j with
        | some t => match σ.tm t with
          | .one (.lit (.bool b)) => match b with
            | true => (match want with
              | true => vcOp P E o (σ.put (some t) (.one (.lit (.bool true)))) fun σ' => ih σ' Q
              | false => ih ((σ.put (some t) (.one (.lit (.bool true)))).put o.dst (.tup [])) Q)
            | false => (match want with
              | true => ih ((σ.put (some t) (.one (.lit (.bool false)))).put o.dst (.tup [])) Q
              | false => vcOp P E o (σ.put (some t) (.one (.lit (.bool false)))) fun σ' => ih σ' Q)
          | .tup [] => ih (σ.put o.dst (.tup [])) Q
          | _ => False
        | none => False) l
theorem vcOps_nil {P : Program} {E : Tab} {ops : Array Oper} {σ : AS} {Q : AS → Prop} : vcOps P E ops [] σ Q = Q σ := rfl
theorem vcOps_cons {P : Program} {E : Tab} {ops : Array Oper} {o : Oper} {rest : List Oper} {σ : AS} {Q : AS → Prop} : vcOps P E ops (o :: rest) σ Q = (match o.guard with
    | none => vcOp P E o σ fun σ' => vcOps P E ops rest σ' Q
    | some (j, want) => match isEff E o.op with
      | true => False
      | false => match gdst ops j with
        | some t => match σ.tm t with
          | .one (.lit (.bool b)) => match b with
            | true => (match want with
              | true => vcOp P E o (σ.put (some t) (.one (.lit (.bool true)))) fun σ' => vcOps P E ops rest σ' Q
              | false => vcOps P E ops rest ((σ.put (some t) (.one (.lit (.bool true)))).put o.dst (.tup [])) Q)
            | false => (match want with
              | true => vcOps P E ops rest ((σ.put (some t) (.one (.lit (.bool false)))).put o.dst (.tup [])) Q
              | false => vcOp P E o (σ.put (some t) (.one (.lit (.bool false)))) fun σ' => vcOps P E ops rest σ' Q)
          | .tup [] => vcOps P E ops rest (σ.put o.dst (.tup [])) Q
          | _ => False
        | none => False) := rfl

section
variable {P : Program} {w0 w : World} {L : Nat → Prop} {n : Nat} {σ : AS} {a : Act} {c : Ctx} {F : Nat → Nat → Prop} {ops : Array Oper}

/-- The operation is wanted; it is not. -/
def wants (ops : Array Oper) (σ : AS) (o : Oper) : Prop :=
  match o.guard with
  | none => True
  | some (j, want) => ∃ t, gdst ops j = some t ∧ σ.tm t = .one (.lit (.bool want))
def skips (ops : Array Oper) (σ : AS) (o : Oper) : Prop :=
  match o.guard with
  | none => False
  | some (j, want) => ∃ t, gdst ops j = some t ∧ (σ.tm t = .one (.lit (.bool (!want))) ∨ σ.tm t = .tup [])

theorem getD_cases (a : Array Value) (t : Nat) : a[t]? = some (a.getD t undef) ∨ (a[t]? = none ∧ a.getD t undef = undef) := by
  cases h : a[t]? with
  | none => exact .inr ⟨rfl, by simp [Array.getD_eq_getD_getElem?, h]⟩
  | some v => exact .inl (by simp [Array.getD_eq_getD_getElem?, h])
theorem yielded_bool (h : H w0 L n σ a w c F) {j t : Nat} (ht : gdst ops j = some t) {b : Bool} (hb : σ.tm t = .one (.lit (.bool b))) : yielded ops a.tmps j = some b := by
  have := h.tm t
  rw [hb] at this
  have := one_lit this
  unfold gdst at ht
  simp only [yielded, ht, Option.bind_some]
  rcases getD_cases a.tmps t with h1 | ⟨_, h1⟩
  · rw [h1, this]
  · rw [h1] at this; cases this
theorem yielded_undef (h : H w0 L n σ a w c F) {j t : Nat} (ht : gdst ops j = some t) (hb : σ.tm t = .tup []) : yielded ops a.tmps j = none := by
  have := h.tm t
  rw [hb] at this
  unfold gdst at ht
  simp only [yielded, ht, Option.bind_some]
  rcases getD_cases a.tmps t with h1 | ⟨h1, _⟩
  · rw [h1]
    generalize a.tmps.getD t undef = v at this ⊢
    cases v <;> first | rfl | exact this.elim
  · rw [h1]

theorem wants_ok (h : H w0 L n σ a w c F) {o : Oper} (hw : wants ops σ o) : Region.wanted o (yielded ops a.tmps) = true := by
  unfold wants at hw
  unfold Region.wanted
  split at hw
  · rename_i hg; rw [hg]
  · rename_i j want hg
    obtain ⟨t, h1, h2⟩ := hw
    rw [hg]
    simp [yielded_bool h h1 h2]
theorem skips_ok (h : H w0 L n σ a w c F) {o : Oper} (hw : skips ops σ o) : Region.wanted o (yielded ops a.tmps) = false := by
  unfold skips at hw
  unfold Region.wanted
  split at hw
  · exact hw.elim
  · rename_i j want hg
    obtain ⟨t, h1, h2⟩ := hw
    rw [hg]
    rcases h2 with h2 | h2
    · simp [yielded_bool h h1 h2]
    · simp [yielded_undef h h1 h2]

/-- What an operation has come to: a value and new places; or it was not wanted. -/
abbrev Dec := Option (T × News)
def app (o : Oper) (d : Dec) (σ : AS) : AS :=
  match d with
  | some (v, news) => (σ.adds news).put o.dst v
  | none => σ.put o.dst (.tup [])
def VOk (P : Program) (E : Tab) (ops : Array Oper) (o : Oper) (d : Dec) (σ : AS) (m : Nat → Option Blk) : Prop :=
  match d with
  | some (v, news) => wants ops σ o ∧ opn P E (siteOf o) o.op σ.get m (fun v' n' => v' = v ∧ n' = news) ∧ Fresh σ.mem news ∧ ∀ x ∈ news, m x.1 = some x.2
  | none => skips ops σ o

/-- The trace of a region, over a list of its operations' numbers. -/
def Tr (P : Program) (E : Tab) (ops : Array Oper) (Q : AS → Prop) : List Nat → AS → (Nat → Option Blk) → Prop
  | [], σ, _ => Q σ
  | i :: l, σ, m => ∃ o, ops[i]? = some o ∧ if isEff E o.op then o.guard = none ∧ m = σ.mem ∧ ope P E (siteOf o) o.op σ (fun σ' v => ∃ m', Le (σ'.put o.dst v).mem m' ∧ Tr P E ops Q l (σ'.put o.dst v) m')
    else ∃ d, VOk P E ops o d σ m ∧ Tr P E ops Q l (app o d σ) m

/-- More memory does no harm. -/
theorem opn'_up {m m' : Nat → Option Blk} (hm : ∀ s k, m s = some k → m' s = some k) {site : Nat} {op : Op} {g : Operand → T} {K : T → News → Prop} {E : Tab} (h : opn P E site op g m K) : opn P E site op g m' K := by
  unfold opn at h ⊢
  split at h <;> try exact h
  · -- load
    simp only [opLoad] at h ⊢
    split at h
    case h_2 => exact h
    split at h
    · split at h
      · rename_i hs; rw [hm _ _ hs]; exact h
      · exact h.elim
    · split at h
      · rename_i hs; rw [hm _ _ hs]; exact h
      · exact h.elim
    · exact h
    · exact h.elim
  · -- conversion
    simp only [opConv2] at h ⊢
    split at h <;> try exact h
    simp only [opToStr] at h ⊢
    split at h <;> try exact h
    split at h <;> try exact h
    split at h
    case isFalse => exact h.elim
    rename_i hc
    rw [if_pos hc]
    obtain ⟨p, es, l, h1, h2, h3⟩ := h
    refine ⟨p, es, l, ?_, h2, h3⟩
    unfold opSrc at h1 ⊢
    split at h1 <;> try exact h1
    split at h1
    · rename_i hs; rw [hm _ _ hs]; exact h1
    · exact h1.elim
  · -- slice
    simp only [opSlice] at h ⊢
    split at h
    case h_2 => exact h
    split at h
    · exact h
    · split at h
      case h_2 => exact h
      split at h
      · obtain ⟨h1, h2, h3, h4⟩ := h
        refine ⟨h1, h2, h3, ?_⟩
        split at h4
        · rename_i hs; rw [hm _ _ hs]; exact h4
        · exact h4.elim
      · exact h
      · exact h.elim
    · exact h.elim
  · -- indexAddr
    simp only [opIndexAddr] at h ⊢
    split at h
    case h_2 => exact h
    split at h
    · obtain ⟨i, h1, h2, h4⟩ := h
      refine ⟨i, h1, h2, ?_⟩
      split at h4
      · rename_i hs; rw [hm _ _ hs]; exact h4
      · exact h4.elim
    · exact h
    · exact h.elim
  · -- call
    split at h <;> try exact h
    unfold opCall at h ⊢
    split at h
    · obtain ⟨us, r, h1, h2, h3⟩ := h
      exact ⟨us, r, h1, h2.up hm, h3⟩
    · exact h.elim

/-- What an operation yields is one value. -/
theorem opn'_val {m : Nat → Option Blk} {site : Nat} {op : Op} {g : Operand → T} {K : T → News → Prop} {E : Tab} (h : opn P E site op g m K) : ∃ v news, K v news ∧ opn P E site op g m (fun v' n' => v' = v ∧ n' = news) := by
  unfold opn at h ⊢
  split at h
  · exact ⟨_, _, h, rfl, rfl⟩
  · exact ⟨_, _, h, rfl, rfl⟩
  · simp only [opPick] at h ⊢
    split at h
    · rename_i cb _
      cases cb
      · exact ⟨_, _, h, rfl, rfl⟩
      · exact ⟨_, _, h, rfl, rfl⟩
    · exact h.elim
  · simp only [opAlloc] at h ⊢
    split at h
    · exact ⟨_, _, h, rfl, rfl⟩
    · exact h.elim
  · simp only [opBox] at h ⊢
    split at h
    · exact ⟨_, _, h, rfl, rfl⟩
    · exact h.elim
  · simp only [opBuild] at h ⊢
    split at h
    · split at h
      · exact ⟨_, _, h, rfl, rfl⟩
      · exact h.elim
    · exact h.elim
  · simp only [opBuildSlice] at h ⊢
    split at h
    · split at h
      · split at h
        case isFalse => exact h.elim
        rename_i hc
        split at h
        · exact ⟨_, _, h, by rw [if_pos hc]; exact ⟨rfl, rfl⟩⟩
        · exact h.elim
      · exact h.elim
    · exact h.elim
  · simp only [opLoad] at h ⊢
    split at h
    · split at h
      · split at h
        · split at h
          case isFalse => exact h.elim
          rename_i hc
          exact ⟨_, _, h, by rw [if_pos hc]; exact ⟨rfl, rfl⟩⟩
        · exact h.elim
      · split at h
        · obtain ⟨e, h1, h3⟩ := h
          split at h3
          case isFalse => exact h3.elim
          rename_i hc
          exact ⟨_, _, h3, e, h1, by rw [if_pos hc]; exact ⟨rfl, rfl⟩⟩
        · exact h.elim
      · split at h
        case isFalse => exact h.elim
        rename_i hc
        exact ⟨_, _, h, by rw [if_pos hc]; exact ⟨rfl, rfl⟩⟩
      · exact h.elim
    · exact h.elim
  · simp only [opNilCheck] at h ⊢
    split at h <;> first | exact h.elim | exact ⟨_, _, h, rfl, rfl⟩
  · simp only [opBin] at h ⊢
    split at h
    · split at h
      · obtain ⟨h1, r, h2, h3⟩ := h; exact ⟨_, _, h3, h1, r, h2, rfl, rfl⟩
      · obtain ⟨h1, r, h2, h3⟩ := h; exact ⟨_, _, h3, h1, r, h2, rfl, rfl⟩
      · split at h
        case isFalse => exact h.elim
        rename_i hk
        subst hk
        simp only [if_true]
        split at h
        all_goals first
          | exact h.elim
          | exact ⟨_, _, h, rfl, rfl⟩
          | (obtain ⟨h1, r, h2, h3⟩ := h; exact ⟨_, _, h3, h1, r, h2, rfl, rfl⟩)
          | (obtain ⟨r, h2, h3⟩ := h; exact ⟨_, _, h3, r, h2, rfl, rfl⟩)
    · split at h <;> first
        | exact h.elim
        | exact ⟨_, _, h, rfl, rfl⟩
        | exact ⟨_, _, h.2, h.1, rfl, rfl⟩
    · split at h <;> first | exact h.elim | exact ⟨_, _, h, rfl, rfl⟩
    · split at h <;> first | exact h.elim | exact ⟨_, _, h, rfl, rfl⟩
    · split at h
      · split at h <;> first | exact h.elim | exact ⟨_, _, h, rfl, rfl⟩
      · exact h.elim
    · exact h.elim
  · simp only [opUn] at h ⊢
    split at h <;> first | exact h.elim | exact ⟨_, _, h, rfl, rfl⟩ | (obtain ⟨r, h1, h2⟩ := h; exact ⟨_, _, h2, r, h1, rfl, rfl⟩)
  · simp only [opConv2] at h ⊢
    split at h
    · simp only [opToBytes] at h ⊢
      split at h
      · split at h
        · split at h
          case isFalse => exact h.elim
          rename_i hc
          exact ⟨_, _, h.2, by rw [if_pos hc]; exact ⟨h.1, rfl, rfl⟩⟩
        · exact h.elim
      · exact h.elim
    · simp only [opToStr] at h ⊢
      split at h
      · split at h
        · split at h
          case isFalse => exact h.elim
          rename_i hc
          obtain ⟨p, es, l, h1, h2, h3⟩ := h
          exact ⟨_, _, h3, by rw [if_pos hc]; exact ⟨p, es, l, h1, h2, rfl, rfl⟩⟩
        · exact h.elim
      · exact h.elim
    simp only [opConv] at h ⊢
    split at h
    · split at h
      · obtain ⟨r, h2, h3⟩ := h
        exact ⟨_, _, h3, r, h2, rfl, rfl⟩
      · exact h.elim
    · split at h
      · exact ⟨_, _, h, rfl, rfl⟩
      · exact h.elim
    · exact h.elim
  · simp only [opMakeFunc] at h ⊢
    split at h <;> first | exact h.elim | exact ⟨_, _, h, rfl, rfl⟩
  · simp only [opMakeSlice] at h ⊢
    split at h
    · split at h
      · split at h
        case isFalse => exact h.elim
        rename_i hc
        obtain ⟨h2, h3, h4, h5, h6, h⟩ := h
        exact ⟨_, _, h, by rw [if_pos hc]; exact ⟨h2, h3, h4, h5, h6, rfl, rfl⟩⟩
      · exact h.elim
    · exact h.elim
  · simp only [opSlice] at h ⊢
    split at h
    · split at h
      · split at h
        · obtain ⟨h1, h2, h3, s', h4, h⟩ := h
          exact ⟨_, _, h, h1, h2, h3, s', h4, rfl, rfl⟩
        · exact h.elim
      · split at h
        · split at h
          · obtain ⟨h1, h2, h3, h⟩ := h
            split at h
            · split at h
              case isFalse => exact h.elim
              rename_i hrz
              subst hrz
              obtain ⟨o, l, h5, h6, h⟩ := h
              exact ⟨_, _, h, h1, h2, h3, by rw [if_pos rfl]; exact ⟨o, l, h5, h6, rfl, rfl⟩⟩
            · exact h.elim
          · obtain ⟨h1, h2, h3, h⟩ := h
            split at h
            case isFalse => exact h.elim
            rename_i hrz
            subst hrz
            obtain ⟨es', h5, h⟩ := h
            exact ⟨_, _, h, h1, h2, h3, by rw [if_pos rfl]; exact ⟨es', h5, rfl, rfl⟩⟩
          · exact h.elim
        · exact h.elim
      · exact h.elim
    · exact h.elim
  · simp only [opFieldAddr] at h ⊢
    split at h
    · split at h <;> first | exact h.elim | exact ⟨_, _, h, rfl, rfl⟩
    · exact h.elim
  · simp only [opField] at h ⊢
    split at h
    · split at h
      · split at h
        case isFalse => exact h.elim
        rename_i hc
        exact ⟨_, _, h, by rw [if_pos hc]; exact ⟨rfl, rfl⟩⟩
      · exact h.elim
    · exact h.elim
  · simp only [opIndexAddr] at h ⊢
    split at h
    · split at h
      · obtain ⟨i, h1, h2, h⟩ := h
        split at h
        · split at h
          case isFalse => exact h.elim
          rename_i hrz
          subst hrz
          exact ⟨_, _, h, i, h1, h2, by rw [if_pos rfl]; exact ⟨rfl, rfl⟩⟩
        · exact h.elim
      · split at h
        case isFalse => exact h.elim
        rename_i hrz
        subst hrz
        obtain ⟨i, h1, e, h3, h⟩ := h
        exact ⟨_, _, h, by rw [if_pos rfl]; exact ⟨i, h1, e, h3, rfl, rfl⟩⟩
      · exact h.elim
    · exact h.elim
  · simp only [opIndex] at h ⊢
    split at h
    · obtain ⟨i, h1, h2, h⟩ := h; exact ⟨_, _, h, i, h1, h2, rfl, rfl⟩
    · exact h.elim
  · simp only [opExtract] at h ⊢
    split at h
    · split at h <;> first | exact h.elim | exact ⟨_, _, h, rfl, rfl⟩
    · exact h.elim
  · split at h
    · split at h
      · simp only [opLen] at h ⊢
        split at h
        all_goals first
          | exact h.elim
          | exact ⟨_, _, h, rfl, rfl⟩
      · exact h.elim
    · split at h
      · simp only [opMinMax] at h ⊢
        split at h <;> first | exact h.elim | exact ⟨_, _, h, rfl, rfl⟩
      · exact h.elim
    · split at h
      · simp only [opMinMax] at h ⊢
        split at h <;> first | exact h.elim | exact ⟨_, _, h, rfl, rfl⟩
      · exact h.elim
    · unfold opCall at h ⊢
      split at h
      · obtain ⟨us, r, h1, h2, h4⟩ := h
        exact ⟨_, _, h4, us, r, h1, h2, rfl, rfl⟩
      · exact h.elim
    · exact h.elim
  · exact h.elim
end
end Go.Proofs.Ytlijeincckbdaaa
