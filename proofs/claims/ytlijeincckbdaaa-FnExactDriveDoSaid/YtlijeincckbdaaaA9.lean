/- The abstract machine: every operation that writes nothing, in one word. -/
import Derived.Test.YtlijeincckbdaaaA8
namespace Go.Proofs.Ytlijeincckbdaaa
open Go.RowKit
set_option linter.unusedSimpArgs false
set_option linter.unusedVariables false

/-- What an operation yields: a value for its slot, and new places. -/
def opn (P : Program) (E : Tab) (site : Nat) (op : Op) (g : Operand → T) (m : Nat → Option Blk) (K : T → News → Prop) : Prop :=
  match op with
  | .move x => K (g x) []
  | .assign x => K (g x) []
  | .pick c a b => opPick K (g c) (g a) (g b)
  | .alloc t => opAlloc E K site t
  | .box _ x => opBox K site (g x)
  | .build t ps => opBuild E K t (ps.toList.map fun p => (p.1, g p.2))
  | .buildSlice t len ps => opBuildSlice E K site t len (ps.toList.map fun p => (p.1, g p.2))
  | .load t x => opLoad E m K t (g x)
  | .nilCheck x => opNilCheck K (g x)
  | .binOp o t x y _ => opBin E K o t (g x) (g y)
  | .unOp o _ x => opUn K o (g x)
  | .convert s d x => opConv2 E m K site s d (g x)
  | .makeFunc fn first caps => opMakeFunc K fn first.size (caps.toList.map g)
  | .makeSlice t l c => opMakeSlice E K site t (g l) (g c)
  | .slice t x lo hi none => opSlice E m K t (g x) (lo.map g) (hi.map g)
  | .fieldAddr s x f => opFieldAddr E K s f (g x)
  | .field s x f => opField E K s f (g x)
  | .indexAddr t x i => opIndexAddr E m K t (g x) (g i)
  | .index t x i => opIndex E K t (g x) (g i)
  | .extract x i => opExtract K (g x) i
  | .call c => match c.callee with
    | .builtin .len => match c.args.toList, c.argTypes.toList with
      | [x], [t] => opLen E K t (g x)
      | _, _ => False
    | .builtin .max => match c.args.toList with
      | [x, y] => opMinMax K true (g x) (g y)
      | _ => False
    | .builtin .min => match c.args.toList with
      | [x, y] => opMinMax K false (g x) (g y)
      | _ => False
    | .value f => opCall P m K site (g f) (c.args.toList.map g)
    | _ => False
  | _ => False

def siteOf (o : Oper) : Nat := o.dst.getD 0 * 16

section
variable {P : Program} {w0 w : World} {L : Nat → Prop} {n : Nat} {σ : AS} {a : Act} {c : Ctx} {F : Nat → Nat → Prop} {K : T → News → Prop}

theorem wp_value {o : Oper} {a : Act} {w w' : World} {V : Value} {K' : Act → World → Prop} {Q : Exit → Act → World → Prop} {s : Sem Value} (he : execOp a.eval o = (do pure (.value (← s)) : Sem Next)) (hr : s.run P w = .ok V w') (h : K' (a.put o.dst V) w') : o.wp P a w K' Q := by
  unfold Oper.wp
  rw [he]
  simp only [Sem.run_bind, hr, Result.andThen_ok, Sem.run_pure]
  exact h

theorem RTL.map (h : H w0 L n σ a w c F) : ∀ l : List Operand, RTL c w (l.map σ.get) (l.map a.eval)
  | [] => trivial
  | x :: l => ⟨h.get x, RTL.map h l⟩
theorem RTN.map (h : H w0 L n σ a w c F) : ∀ l : List (Nat × Operand), RTN c w (l.map fun p => (p.1, σ.get p.2)) (l.map fun p => (p.1, a.eval p.2))
  | [] => trivial
  | x :: l => ⟨rfl, h.get x.2, RTN.map h l⟩
theorem ROT.map (h : H w0 L n σ a w c F) (o : Option Operand) : ROT c w (o.map σ.get) (o.map a.eval) := by
  cases o with
  | none => trivial
  | some x => exact h.get x

theorem eqGuard_lit {op : BinOp} {t : TypeId} {x y : Operand} {X Y : Value} (hX : (∃ k n, X = .int k n) ∨ (∃ s, X = .string s) ∨ (∃ b, X = .bool b) ∨ ∃ a n c, X = .slice a n c) : eqGuard op t x y X Y = pure () := by
  rcases hX with ⟨k, n, rfl⟩ | ⟨s, rfl⟩ | ⟨b, rfl⟩ | ⟨s, n, k, rfl⟩
  · exact eqGuard_at_int (op := op) (t := t) (x := x) (y := y) (v := Y) k n
  · exact eqGuard_at_string (op := op) (t := t) (x := x) (y := y) (v := Y) s
  · exact eqGuard_at_bool (op := op) (t := t) (x := x) (y := y) (v := Y) b
  · exact eqGuard_at_slice (op := op) (t := t) (x := x) (y := y) (v := Y) s n k

theorem run_call {f : FuncId} {args cs : Array Value} (h : Callable P f) (a : Act) (ff : Operand) (c : Call) (o : Oper) (hop : o.op = .call c) (hc : c.callee = .value ff) (hf : a.eval ff = .func (.func f) #[] cs) (hargs : c.args.map a.eval = args) :
    (execOp a.eval o).run P w = .ok (.enter f (args ++ cs)) w := by
  obtain ⟨fn, h1, h2, h3⟩ := h
  unfold execOp
  simp only [hop, resolve, hc, hf, Deferred.ofValue, Sem.run_bind, Sem.run_pure, Result.andThen_ok, hargs, invoke, callFunc, run_program, h1, h3, h2, Array.empty_append]
  simp

theorem opn_ok {E : Tab} (hE : E.ok P) (h : H w0 L n σ a w c F) {m : Nat → Option Blk} (hm : Sup σ m) {o : Oper} {site : Nat} (hk : opn P E site o.op σ.get m K) :
    ∃ v news, K v news ∧ (Fresh σ.mem news → ∀ (K' : Act → World → Prop) (Q : Exit → Act → World → Prop), (∀ V w', Post w0 L n σ a news v V w' → K' (a.put o.dst V) w') → o.wp P a w K' Q) := by
  have pureOp : ∀ {s : Sem Value}, execOp a.eval o = (do pure (.value (← s)) : Sem Next) → (∃ v V, K v [] ∧ s.run P w = .ok V w ∧ RT c w v V) →
      ∃ v news, K v news ∧ (Fresh σ.mem news → ∀ (K' : Act → World → Prop) (Q : Exit → Act → World → Prop), (∀ V w', Post w0 L n σ a news v V w' → K' (a.put o.dst V) w') → o.wp P a w K' Q) := by
    intro s he ⟨v, V, h1, h2, h3⟩
    exact ⟨v, [], h1, fun _ K' Q hK => wp_value he h2 (hK V w ⟨c, F, h, h3⟩)⟩
  have makeOp : ∀ {s : Sem Value}, execOp a.eval o = (do pure (.value (← s)) : Sem Next) → (∃ v news, K v news ∧ (Fresh σ.mem news → ∃ V w', s.run P w = .ok V w' ∧ Post w0 L n σ a news v V w')) →
      ∃ v news, K v news ∧ (Fresh σ.mem news → ∀ (K' : Act → World → Prop) (Q : Exit → Act → World → Prop), (∀ V w', Post w0 L n σ a news v V w' → K' (a.put o.dst V) w') → o.wp P a w K' Q) := by
    intro s he ⟨v, news, h1, h2⟩
    exact ⟨v, news, h1, fun hf K' Q hK => by obtain ⟨V, w', h3, h4⟩ := h2 hf; exact wp_value he h3 (hK V w' h4)⟩
  unfold opn at hk
  split at hk
  · rename_i x ho
    exact pureOp (s := pure (a.eval x)) (by simp [execOp, ho]) ⟨_, _, hk, rfl, h.get x⟩
  · rename_i x ho
    exact pureOp (s := pure (a.eval x)) (by simp [execOp, ho]) ⟨_, _, hk, rfl, h.get x⟩
  · rename_i x y z ho
    unfold opPick at hk
    split at hk
    case h_2 => exact hk.elim
    rename_i cb hc
    have h1 := h.get x
    rw [hc] at h1
    have h2 := one_lit h1
    cases cb
    · exact pureOp (s := pure (a.eval z)) (by simp [execOp, ho, h2, asBool]) ⟨_, _, hk, rfl, h.get z⟩
    · exact pureOp (s := pure (a.eval y)) (by simp [execOp, ho, h2, asBool]) ⟨_, _, hk, rfl, h.get y⟩
  · rename_i t ho
    exact makeOp (s := Instr.alloc t true undef) (by simp [execOp, ho, undef]) (opAlloc_ok hE h hk)
  · rename_i t x ho
    exact makeOp (s := Instr.box t (a.eval x)) (by simp [execOp, ho]) (opBox_ok h (h.get x) hk)
  · rename_i t ps ho
    refine pureOp (s := Instr.build t (ps.toList.map fun p => (p.1, a.eval p.2)).toArray) (by simp [execOp, ho]; congr 1; congr 1; apply Array.ext'; simp) (opBuild_ok hE (RTN.map h ps.toList) hk)
  · rename_i t len ps ho
    refine makeOp (s := Instr.buildSlice t len (ps.toList.map fun p => (p.1, a.eval p.2)).toArray) (by simp [execOp, ho]; congr 1; congr 1; apply Array.ext'; simp) (opBuildSlice_ok hE h (RTN.map h ps.toList) hk)
  · rename_i t x ho
    exact pureOp (s := Instr.loadAt t (a.eval x)) (by simp [execOp, ho]) (opLoad_ok hE h hm (h.get x) hk)
  · rename_i x ho
    obtain ⟨v, h1, h2, h3⟩ := opNilCheck_ok (h.get x) hk
    rcases h3 with ⟨p, h3⟩ | ⟨f, cs, h3⟩
    · exact pureOp (s := pure (a.eval x)) (by simp [execOp, ho, h3]) ⟨_, _, h1, rfl, h2⟩
    · exact pureOp (s := pure (a.eval x)) (by simp [execOp, ho, h3]) ⟨_, _, h1, rfl, h2⟩
  · rename_i op t x y ty ho
    obtain ⟨v, V, h1, h2, h3⟩ := opBin_ok hE (h.get x) (h.get y) hk
    have hX : (∃ k n, a.eval x = .int k n) ∨ (∃ s, a.eval x = .string s) ∨ (∃ b, a.eval x = .bool b) ∨ ∃ s n k, a.eval x = .slice s n k := by
      have hx := h.get x
      unfold opBin at hk
      split at hk
      · rename_i e1 _; rw [e1] at hx; exact .inl ⟨_, _, one_lit hx⟩
      · rename_i e1 _; rw [e1] at hx; exact .inr (.inl ⟨_, one_lit hx⟩)
      · rename_i e1 _
        rw [e1] at hx
        obtain ⟨hx, _⟩ := hx
        generalize a.eval x = X at hx ⊢
        cases hx with | nn hx => exact .inr (.inr (.inr ⟨_, _, _, rfl⟩))
      · rename_i e1 _; rw [e1] at hx; exact .inr (.inr (.inr ⟨_, _, _, one_lit hx⟩))
      · rename_i e1 _; rw [e1] at hx; exact .inr (.inr (.inl ⟨_, one_lit hx⟩))
      · exact hk.elim
    exact pureOp (s := binOp op t (a.eval x) (a.eval y)) (by simp [execOp, ho, eqGuard_lit hX]) ⟨v, V, h1, h2, h3⟩
  · rename_i op t x ho
    exact pureOp (s := Op.unary op (a.eval x)) (by simp [execOp, ho]) (opUn_ok (h.get x) hk)
  · rename_i s d x ho
    exact makeOp (s := convert s d (a.eval x)) (by simp [execOp, ho]) (opConv2_ok hE h hm (h.get x) hk)
  · rename_i fn first caps ho
    obtain ⟨v, f, h1, h2, rfl, h4⟩ := opMakeFunc_ok (RTL.map h caps.toList) hk
    have hfirst : first = #[] := by simpa using h2
    exact pureOp (s := Instr.makeFunc (.func f) #[] (caps.map a.eval)) (by simp [execOp, ho, hfirst]) ⟨v, _, h1, by simp [Instr.makeFunc]; rfl, by
      have e : (List.map a.eval caps.toList).toArray = caps.map a.eval := by apply Array.ext'; simp
      rw [← e]; exact h4⟩
  · rename_i t l k ho
    exact makeOp (s := Instr.makeSlice t (a.eval l) (a.eval k)) (by simp [execOp, ho]) (opMakeSlice_ok hE h (h.get l) (h.get k) hk)
  · rename_i t x lo hi ho
    exact pureOp (s := Instr.sliceAt t (a.eval x) (lo.map a.eval) (hi.map a.eval) none) (by simp [execOp, ho]) (opSlice_ok hE h hm (h.get x) (ROT.map h lo) (ROT.map h hi) hk)
  · rename_i s x f ho
    exact pureOp (s := Instr.fieldAt s (a.eval x) f) (by simp [execOp, ho]) (opFieldAddr_ok hE (h.get x) hk)
  · rename_i s x f ho
    exact pureOp (s := Instr.field s (a.eval x) f) (by simp [execOp, ho]) (opField_ok hE (h.get x) hk)
  · rename_i t x i ho
    exact pureOp (s := Instr.indexAt t (a.eval x) (a.eval i)) (by simp [execOp, ho]) (opIndexAddr_ok hE h hm (h.get x) (h.get i) hk)
  · rename_i t x i ho
    exact pureOp (s := Instr.index t (a.eval x) (a.eval i)) (by simp [execOp, ho]) (opIndex_ok hE (h.get x) (h.get i) hk)
  · rename_i x i ho
    exact pureOp (s := Instr.extract (a.eval x) i) (by simp [execOp, ho]) (opExtract_ok (h.get x) hk)
  · rename_i cl ho
    split at hk
    · rename_i hc
      split at hk
      case h_2 => exact hk.elim
      rename_i x t hx ht
      have hx' : cl.args = #[x] := by rw [← Array.toArray_toList (xs := cl.args), hx]
      have ht' : cl.argTypes = #[t] := by rw [← Array.toArray_toList (xs := cl.argTypes), ht]
      exact pureOp (s := Builtin.len_ #[t] o.type #[a.eval x]) (by simp [execOp, ho, resolve, hc, invoke, builtin, hx', ht']) (opLen_ok hE (h.get x) hk)
    · rename_i hc
      split at hk
      case h_2 => exact hk.elim
      rename_i x y hx
      have hx' : cl.args = #[x, y] := by rw [← Array.toArray_toList (xs := cl.args), hx]
      exact pureOp (s := Builtin.max_ cl.argTypes o.type #[a.eval x, a.eval y]) (by simp [execOp, ho, resolve, hc, invoke, builtin, hx']) (opMinMax_ok (mx := true) (ts := cl.argTypes) (ty := o.type) (h.get x) (h.get y) hk)
    · rename_i hc
      split at hk
      case h_2 => exact hk.elim
      rename_i x y hx
      have hx' : cl.args = #[x, y] := by rw [← Array.toArray_toList (xs := cl.args), hx]
      exact pureOp (s := Builtin.min_ cl.argTypes o.type #[a.eval x, a.eval y]) (by simp [execOp, ho, resolve, hc, invoke, builtin, hx']) (opMinMax_ok (mx := false) (ts := cl.argTypes) (ty := o.type) (h.get x) (h.get y) hk)
    · rename_i f hc
      obtain ⟨v, news, h1, h2⟩ := opCall_ok h hm (h.get f) (RTL.map h cl.args.toList) hk
      refine ⟨v, news, h1, fun hf K' Q hK => ?_⟩
      obtain ⟨g, cs, h3, h4, h5⟩ := h2 hf
      unfold Oper.wp
      rw [run_call h4 a f cl o ho hc h3 rfl, Oper.upon_enter]
      have e : (List.map a.eval cl.args.toList).toArray = cl.args.map a.eval := by apply Array.ext'; simp
      rw [e] at h5
      refine Calls.mono h5 ?_
      rintro e w' ⟨V, rfl, hP⟩
      exact hK V w' hP
    · exact hk.elim
  · exact hk.elim
end
end Go.Proofs.Ytlijeincckbdaaa
