/- The abstract machine: every operation that writes nothing, in one word. -/
import Derived.Test.YtlijeincckbdaaaQa
import Derived.MapKept
namespace Go.Proofs.Ytlijeincckbdaaa
open Go.RowKit
set_option linter.unusedSimpArgs false
set_option linter.unusedVariables false

/-- Structs of plain fields, compared. -/
def opEqs (P : Program) (K : T → News → Prop) (op : BinOp) (t : TypeId) (xs ys : List AV) : Prop :=
  ∃ (X Y : List Value) (b : Bool), xs = X.map .lit ∧ ys = Y.map .lit ∧ P.eqGuardType P.depth t = false ∧ (∀ w : World, (binOp op t (.agg X.toArray) (.agg Y.toArray)).run P w = .ok (.bool b) w) ∧ K (.one (.lit (.bool b))) []
/-- Maps from strings, as lists: what stands at a key; a key's value is set. -/
def getM : List (ByteArray × Value) → ByteArray → Option Value
  | [], _ => none
  | p :: es, s => if p.1 = s then some p.2 else getM es s
def upM : List (ByteArray × Value) → ByteArray → Value → List (ByteArray × Value)
  | [], s, u => [(s, u)]
  | p :: es, s, u => if p.1 = s then (s, u) :: es else p :: upM es s u
def tOf : Value → T
  | .agg cs => .agg (cs.toList.map .lit)
  | v => .one (.lit v)
def tpOf : Value → Bool × List AV
  | .agg cs => (true, cs.toList.map .lit)
  | v => (false, [.lit v])
def opLookup (P : Program) (m : Nat → Option Blk) (K : T → News → Prop) (t : TypeId) (x k : T) (ok : Bool) : Prop :=
  match x, k with
  | .one (.lit (.map (some b))), .one (.lit (.string s)) => ∃ kt vt p es z v, P.underlying t = some (.map kt vt) ∧ P.underlying kt = some .string ∧ m p = some (.mapb b es) ∧ (P.info? vt).bind (·.zero) = some z ∧ vOk z = true ∧ (getM es s).getD z = v ∧
      K (match ok with
        | true => .tup [tpOf v, (false, [.lit (.bool (getM es s).isSome)])]
        | false => tOf v) []
  | _, _ => False
/-- What an operation yields: a value for its slot, and new places. -/
def opn (P : Program) (E : Tab) (site : Nat) (op : Op) (g : Operand → T) (m : Nat → Option Blk) (K : T → News → Prop) : Prop :=
  match op with
  | .move x => K (g x) []
  | .assign x => K (g x) []
  | .pick c a b => opPick K (g c) (g a) (g b)
  | .alloc t => opAlloc E K site t
  | .box _ x => opBox K site (g x)
  | .build t ps => opBuild E K t (ps.toList.map fun p => (p.1, g p.2))
  | .buildSlice t len ps => opBuildSlice E K site t len (ps.toList.map fun p => (p.1, g p.2))
  | .load t x => opLoad E m K t (g x)
  | .nilCheck x => opNilCheck K (g x)
  | .binOp o t x y _ => match g x, g y with
    | .agg xs, .agg ys => opEqs P K o t xs ys
    | u, v => opBin E K o t u v
  | .unOp o _ x => opUn K o (g x)
  | .convert s d x => opConv2 E m K site s d (g x)
  | .makeFunc fn first caps => opMakeFunc K fn first.size (caps.toList.map g)
  | .makeSlice t l c => opMakeSlice E K site t (g l) (g c)
  | .slice t x lo hi none => opSlice E m K t (g x) (lo.map g) (hi.map g)
  | .fieldAddr s x f => opFieldAddr E K s f (g x)
  | .field s x f => opField E K s f (g x)
  | .indexAddr t x i => opIndexAddr E m K t (g x) (g i)
  | .index t x i => opIndex E K t (g x) (g i)
  | .extract x i => opExtract K (g x) i
  | .lookup t x k ok => opLookup P m K t (g x) (g k) ok
  | .call c => match c.callee with
    | .builtin .len => match c.args.toList, c.argTypes.toList with
      | [x], [t] => opLen E K t (g x)
      | _, _ => False
    | .builtin .max => match c.args.toList with
      | [x, y] => opMinMax K true (g x) (g y)
      | _ => False
    | .builtin .min => match c.args.toList with
      | [x, y] => opMinMax K false (g x) (g y)
      | _ => False
    | .value f => opCall P m K site (g f) (c.args.toList.map g)
    | _ => False
  | _ => False

def siteOf (o : Oper) : Nat := o.dst.getD 0 * 16

section
variable {P : Program} {w0 w : World} {L : Nat → Prop} {n : Nat} {σ : AS} {a : Act} {c : Ctx} {F : Nat → Nat → Prop} {K : T → News → Prop}

theorem wp_value {o : Oper} {a : Act} {w w' : World} {V : Value} {K' : Act → World → Prop} {Q : Exit → Act → World → Prop} {s : Sem Value} (he : execOp a.eval o = (do pure (.value (← s)) : Sem Next)) (hr : s.run P w = .ok V w') (h : K' (a.put o.dst V) w') : o.wp P a w K' Q := by
  unfold Oper.wp
  rw [he]
  simp only [Sem.run_bind, hr, Result.andThen_ok, Sem.run_pure]
  exact h

theorem RL.lits_eq : ∀ {pre : List Value} {vs : List Value}, RL c w (pre.map .lit) vs → vs = pre ∧ pre.all (·.oneCell') = true
  | [], [], _ => ⟨rfl, rfl⟩
  | p :: pre, v :: vs, h => by
    obtain ⟨⟨h1, h2⟩, h3⟩ := h
    cases h1
    obtain ⟨rfl, h5⟩ := RL.lits_eq h3
    exact ⟨rfl, by simp [h2, h5]⟩
theorem opEqs_ok {o : Oper} {op : BinOp} {t ty : TypeId} {x y : Operand} {xs ys : List AV} (ho : o.op = .binOp op t x y ty) (hX : RT c w (.agg xs) (a.eval x)) (hY : RT c w (.agg ys) (a.eval y)) (hk : opEqs P K op t xs ys) :
    ∃ b, K (.one (.lit (.bool b))) [] ∧ ∀ w' : World, (execOp a.eval o).run P w' = .ok (.value (.bool b)) w' := by
  obtain ⟨X, Y, b, rfl, rfl, hg, hrun, hk⟩ := hk
  refine ⟨b, hk, fun w' => ?_⟩
  generalize hx : a.eval x = VX at hX
  generalize hy : a.eval y = VY at hY
  cases VX <;> try exact hX.elim
  rename_i cx
  cases VY <;> try exact hY.elim
  rename_i cy
  have e1 : cx = X.toArray := by rw [← (RL.lits_eq hX).1]
  have e2 : cy = Y.toArray := by rw [← (RL.lits_eq hY).1]
  subst e1 e2
  unfold execOp
  simp only [ho, hx, hy, Sem.run_bind, run_eqGuard_agg w' op t x y X.toArray Y.toArray hg, Result.andThen_ok, hrun, Sem.run_pure]

theorem RTL.map (h : H w0 L n σ a w c F) : ∀ l : List Operand, RTL c w (l.map σ.get) (l.map a.eval)
  | [] => trivial
  | x :: l => ⟨h.get x, RTL.map h l⟩
theorem RTN.map (h : H w0 L n σ a w c F) : ∀ l : List (Nat × Operand), RTN c w (l.map fun p => (p.1, σ.get p.2)) (l.map fun p => (p.1, a.eval p.2))
  | [] => trivial
  | x :: l => ⟨rfl, h.get x.2, RTN.map h l⟩
theorem ROT.map (h : H w0 L n σ a w c F) (o : Option Operand) : ROT c w (o.map σ.get) (o.map a.eval) := by
  cases o with
  | none => trivial
  | some x => exact h.get x

theorem eqGuard_lit {op : BinOp} {t : TypeId} {x y : Operand} {X Y : Value} (hX : (∃ k n, X = .int k n) ∨ (∃ s, X = .string s) ∨ (∃ b, X = .bool b) ∨ ∃ a n c, X = .slice a n c) : eqGuard op t x y X Y = pure () := by
  rcases hX with ⟨k, n, rfl⟩ | ⟨s, rfl⟩ | ⟨b, rfl⟩ | ⟨s, n, k, rfl⟩
  · exact eqGuard_at_int (op := op) (t := t) (x := x) (y := y) (v := Y) k n
  · exact eqGuard_at_string (op := op) (t := t) (x := x) (y := y) (v := Y) s
  · exact eqGuard_at_bool (op := op) (t := t) (x := x) (y := y) (v := Y) b
  · exact eqGuard_at_slice (op := op) (t := t) (x := x) (y := y) (v := Y) s n k

theorem run_call {f : FuncId} {args cs : Array Value} (h : Callable P f) (a : Act) (ff : Operand) (c : Call) (o : Oper) (hop : o.op = .call c) (hc : c.callee = .value ff) (hf : a.eval ff = .func (.func f) #[] cs) (hargs : c.args.map a.eval = args) :
    (execOp a.eval o).run P w = .ok (.enter f (args ++ cs)) w := by
  obtain ⟨fn, h1, h2, h3⟩ := h
  unfold execOp
  simp only [hop, resolve, hc, hf, Deferred.ofValue, Sem.run_bind, Sem.run_pure, Result.andThen_ok, hargs, invoke, callFunc, run_program, h1, h3, h2, Array.empty_append]
  simp

theorem getM_mem : ∀ {es : List (ByteArray × Value)} {s : ByteArray} {v : Value}, getM es s = some v → ∃ p ∈ es, p.2 = v
  | [], _, _, h => by cases h
  | p :: es, s, v, h => by
    simp only [getM] at h
    split at h
    · cases h; exact ⟨p, by simp, rfl⟩
    · obtain ⟨q, h1, h2⟩ := getM_mem h; exact ⟨q, by simp [h1], h2⟩
theorem find_getM (s : ByteArray) : ∀ (l : List MapEntry) (es : List (ByteArray × Value)) (i : Nat), l.map (fun e => (e.key, e.val)) = es.map (fun p => (Value.string p.1, p.2)) →
    (Instr.findNow .string (.string s) l i = some none ∧ getM es s = none ∧ ∀ u, upM es s u = es ++ [(s, u)]) ∨
    ∃ j e, Instr.findNow .string (.string s) l i = some (some (i + j, e.val)) ∧ l[j]? = some e ∧ e.key = .string s ∧ getM es s = some e.val ∧ ∀ u, upM es s u = es.set j (s, u)
  | [], [], i, _ => .inl ⟨rfl, rfl, fun _ => rfl⟩
  | e :: l, p :: es, i, h => by
    simp only [List.map_cons, List.cons.injEq, Prod.mk.injEq] at h
    obtain ⟨⟨h1, h2⟩, h3⟩ := h
    have hs : Instr.sameNow .string (.string s) e.key = some (s == p.1) := by rw [h1]; rfl
    by_cases hp : p.1 = s
    · have hb : (s == p.1) = true := by rw [hp]; exact (MapKept.bytes_beq s s).2 rfl
      refine .inr ⟨0, e, ?_, rfl, by rw [h1, hp], ?_, fun u => ?_⟩
      · simp [Instr.findNow, hs, hb]
      · simp [getM, hp, h2]
      · simp [upM, hp]
    · have hb : (s == p.1) = false := by
        cases hq : (s == p.1) with
        | false => rfl
        | true => exact absurd ((MapKept.bytes_beq _ _).1 hq).symm hp
      rcases find_getM s l es (i + 1) h3 with ⟨a1, a2, a3⟩ | ⟨j, e', a1, a2, a3, a4, a5⟩
      · refine .inl ⟨?_, ?_, fun u => ?_⟩
        · simp [Instr.findNow, hs, hb, a1]
        · simp [getM, hp, a2]
        · simp [upM, hp, a3]
      · refine .inr ⟨j + 1, e', ?_, by simpa using a2, a3, ?_, fun u => ?_⟩
        · simp [Instr.findNow, hs, hb, a1]; omega
        · simp [getM, hp, a4]
        · simp [upM, hp, a5]
theorem run_zero {t : TypeId} {z : Value} (h : (P.info? t).bind (·.zero) = some z) (w : World) : (zeroValue t).run P w = .ok z w := by
  cases hi : P.info? t with
  | none => rw [hi] at h; cases h
  | some i =>
    rw [hi] at h
    simp only [Option.bind_some] at h
    simp [zeroValue, typeInfo, hi, h, Result.andThen]
theorem RL_lits : ∀ (l : List Value), l.all (·.oneCell') = true → RL c w (l.map .lit) l
  | [], _ => trivial
  | v :: l, h => by
    simp only [List.all_cons, Bool.and_eq_true] at h
    exact ⟨⟨.lit v, h.1⟩, RL_lits l h.2⟩
theorem RT_tOf {v : Value} (h : vOk v = true) : RT c w (tOf v) v := by
  have one : ∀ v : Value, v.oneCell' = true → RT c w (.one (.lit v)) v := fun v h => RT_lit _ h
  cases v <;> first | exact one _ h | skip
  rename_i cs
  exact RL_lits _ h
theorem RTs_tpOf {v : Value} (h : vOk v = true) {ts : List (Bool × List AV)} {vs : List Value} (hr : RTs c w ts vs) : RTs c w (tpOf v :: ts) (v :: vs) := by
  have one : ∀ v : Value, v.oneCell' = true → RTs c w ((false, [.lit v]) :: ts) (v :: vs) := fun v h => ⟨⟨.lit v, h⟩, hr⟩
  cases v <;> first | exact one _ h | skip
  rename_i cs
  exact ⟨RL_lits _ h, hr⟩
theorem opLookup_ok {m : Nat → Option Blk} (h : H w0 L n σ a w c F) (hm : Sup σ m) {t : TypeId} {x k : T} {X Y : Value} {ok : Bool} (hX : RT c w x X) (hY : RT c w k Y) (hk : opLookup P m K t x k ok) :
    ∃ v V, K v [] ∧ (Instr.lookup t X Y ok).run P w = .ok V w ∧ RT c w v V := by
  unfold opLookup at hk
  split at hk
  case h_2 => exact hk.elim
  rename_i b s
  obtain ⟨kt, vt, p, es, z, v, h1, h2, h3, h4, h5, rfl, h7⟩ := hk
  have := one_lit hX; subst this
  have := one_lit hY; subst this
  obtain ⟨_, ⟨ents, ck, a2, a3, a4⟩, _⟩ := h.mem p _ (hm.2 p _ rfl h3)
  have hv : vOk ((getM es s).getD z) = true := by
    cases hg : getM es s with
    | none => exact h5
    | some v =>
      obtain ⟨q, q1, q2⟩ := getM_mem hg
      have := List.all_eq_true.1 a4 q q1
      rw [q2] at this; exact this
  have hrun : (Instr.lookup t (.map (some b)) (.string s) ok).run P w = .ok (if ok then .tuple #[(getM es s).getD z, .bool (getM es s).isSome] else (getM es s).getD z) w := by
    unfold Instr.lookup
    simp only [Sem.run_bind, MapKept.run_getObj_map a2, run_underlying h1, Result.andThen_ok, Sem.run_pure]
    rw [MapKept.run_checkKey h2 (k := .string s) trivial]
    simp only [Result.andThen_ok]
    rcases find_getM s ents.toList es 0 a3 with ⟨b1, b2, _⟩ | ⟨j, e, b1, b2, b3, b4, _⟩
    · rw [MapKept.run_findKey h2 b1]
      simp only [Result.andThen_ok, Sem.run_bind, run_zero h4, Sem.run_pure, b2, Option.getD_none, Option.isSome_none]
    · rw [MapKept.run_findKey h2 b1]
      simp only [Result.andThen_ok, Sem.run_bind, Sem.run_pure, b4, Option.getD_some, Option.isSome_some]
  refine ⟨_, _, h7, hrun, ?_⟩
  cases ok
  · exact RT_tOf hv
  · exact RTs_tpOf hv ⟨⟨.lit _, rfl⟩, trivial⟩

theorem opn_ok {E : Tab} (hE : E.ok P) (h : H w0 L n σ a w c F) {m : Nat → Option Blk} (hm : Sup σ m) {o : Oper} {site : Nat} (hk : opn P E site o.op σ.get m K) :
    ∃ v news, K v news ∧ (Fresh σ.mem news → ∀ (K' : Act → World → Prop) (Q : Exit → Act → World → Prop), (∀ V w', Post w0 L n σ a news v V w' → K' (a.put o.dst V) w') → o.wp P a w K' Q) := by
  have pureOp : ∀ {s : Sem Value}, execOp a.eval o = (do pure (.value (← s)) : Sem Next) → (∃ v V, K v [] ∧ s.run P w = .ok V w ∧ RT c w v V) →
      ∃ v news, K v news ∧ (Fresh σ.mem news → ∀ (K' : Act → World → Prop) (Q : Exit → Act → World → Prop), (∀ V w', Post w0 L n σ a news v V w' → K' (a.put o.dst V) w') → o.wp P a w K' Q) := by
    intro s he ⟨v, V, h1, h2, h3⟩
    exact ⟨v, [], h1, fun _ K' Q hK => wp_value he h2 (hK V w ⟨c, F, h, h3⟩)⟩
  have makeOp : ∀ {s : Sem Value}, execOp a.eval o = (do pure (.value (← s)) : Sem Next) → (∃ v news, K v news ∧ (Fresh σ.mem news → ∃ V w', s.run P w = .ok V w' ∧ Post w0 L n σ a news v V w')) →
      ∃ v news, K v news ∧ (Fresh σ.mem news → ∀ (K' : Act → World → Prop) (Q : Exit → Act → World → Prop), (∀ V w', Post w0 L n σ a news v V w' → K' (a.put o.dst V) w') → o.wp P a w K' Q) := by
    intro s he ⟨v, news, h1, h2⟩
    exact ⟨v, news, h1, fun hf K' Q hK => by obtain ⟨V, w', h3, h4⟩ := h2 hf; exact wp_value he h3 (hK V w' h4)⟩
  unfold opn at hk
  split at hk
  · rename_i x ho
    exact pureOp (s := pure (a.eval x)) (by simp [execOp, ho]) ⟨_, _, hk, rfl, h.get x⟩
  · rename_i x ho
    exact pureOp (s := pure (a.eval x)) (by simp [execOp, ho]) ⟨_, _, hk, rfl, h.get x⟩
  · rename_i x y z ho
    unfold opPick at hk
    split at hk
    case h_2 => exact hk.elim
    rename_i cb hc
    have h1 := h.get x
    rw [hc] at h1
    have h2 := one_lit h1
    cases cb
    · exact pureOp (s := pure (a.eval z)) (by simp [execOp, ho, h2, asBool]) ⟨_, _, hk, rfl, h.get z⟩
    · exact pureOp (s := pure (a.eval y)) (by simp [execOp, ho, h2, asBool]) ⟨_, _, hk, rfl, h.get y⟩
  · rename_i t ho
    exact makeOp (s := Instr.alloc t true undef) (by simp [execOp, ho, undef]) (opAlloc_ok hE h hk)
  · rename_i t x ho
    exact makeOp (s := Instr.box t (a.eval x)) (by simp [execOp, ho]) (opBox_ok h (h.get x) hk)
  · rename_i t ps ho
    refine pureOp (s := Instr.build t (ps.toList.map fun p => (p.1, a.eval p.2)).toArray) (by simp [execOp, ho]; congr 1; congr 1; apply Array.ext'; simp) (opBuild_ok hE (RTN.map h ps.toList) hk)
  · rename_i t len ps ho
    refine makeOp (s := Instr.buildSlice t len (ps.toList.map fun p => (p.1, a.eval p.2)).toArray) (by simp [execOp, ho]; congr 1; congr 1; apply Array.ext'; simp) (opBuildSlice_ok hE h (RTN.map h ps.toList) hk)
  · rename_i t x ho
    exact pureOp (s := Instr.loadAt t (a.eval x)) (by simp [execOp, ho]) (opLoad_ok hE h hm (h.get x) hk)
  · rename_i x ho
    obtain ⟨v, h1, h2, h3⟩ := opNilCheck_ok (h.get x) hk
    rcases h3 with ⟨p, h3⟩ | ⟨f, cs, h3⟩
    · exact pureOp (s := pure (a.eval x)) (by simp [execOp, ho, h3]) ⟨_, _, h1, rfl, h2⟩
    · exact pureOp (s := pure (a.eval x)) (by simp [execOp, ho, h3]) ⟨_, _, h1, rfl, h2⟩
  · rename_i op t x y ty ho
    split at hk
    · rename_i xs ys ex ey
      obtain ⟨b, h1, h2⟩ := opEqs_ok ho (ex ▸ h.get x) (ey ▸ h.get y) hk
      refine ⟨_, [], h1, fun _ K' Q hK => ?_⟩
      unfold Oper.wp
      rw [h2 w]
      exact hK _ w ⟨c, F, h, RT_lit _ rfl⟩
    obtain ⟨v, V, h1, h2, h3⟩ := opBin_ok hE (h.get x) (h.get y) hk
    have hX : (∃ k n, a.eval x = .int k n) ∨ (∃ s, a.eval x = .string s) ∨ (∃ b, a.eval x = .bool b) ∨ ∃ s n k, a.eval x = .slice s n k := by
      have hx := h.get x
      unfold opBin at hk
      split at hk
      · rename_i e1 _; rw [e1] at hx; exact .inl ⟨_, _, one_lit hx⟩
      · rename_i e1 _; rw [e1] at hx; exact .inr (.inl ⟨_, one_lit hx⟩)
      · rename_i e1 _
        rw [e1] at hx
        obtain ⟨hx, _⟩ := hx
        generalize a.eval x = X at hx ⊢
        cases hx with | nn hx => exact .inr (.inr (.inr ⟨_, _, _, rfl⟩))
      · rename_i e1 _; rw [e1] at hx; exact .inr (.inr (.inr ⟨_, _, _, one_lit hx⟩))
      · rename_i e1 _; rw [e1] at hx; exact .inr (.inr (.inl ⟨_, one_lit hx⟩))
      · exact hk.elim
    exact pureOp (s := binOp op t (a.eval x) (a.eval y)) (by simp [execOp, ho, eqGuard_lit hX]) ⟨v, V, h1, h2, h3⟩
  · rename_i op t x ho
    exact pureOp (s := Op.unary op (a.eval x)) (by simp [execOp, ho]) (opUn_ok (h.get x) hk)
  · rename_i s d x ho
    exact makeOp (s := convert s d (a.eval x)) (by simp [execOp, ho]) (opConv2_ok hE h hm (h.get x) hk)
  · rename_i fn first caps ho
    obtain ⟨v, f, h1, h2, rfl, h4⟩ := opMakeFunc_ok (RTL.map h caps.toList) hk
    have hfirst : first = #[] := by simpa using h2
    exact pureOp (s := Instr.makeFunc (.func f) #[] (caps.map a.eval)) (by simp [execOp, ho, hfirst]) ⟨v, _, h1, by simp [Instr.makeFunc]; rfl, by
      have e : (List.map a.eval caps.toList).toArray = caps.map a.eval := by apply Array.ext'; simp
      rw [← e]; exact h4⟩
  · rename_i t l k ho
    exact makeOp (s := Instr.makeSlice t (a.eval l) (a.eval k)) (by simp [execOp, ho]) (opMakeSlice_ok hE h (h.get l) (h.get k) hk)
  · rename_i t x lo hi ho
    exact pureOp (s := Instr.sliceAt t (a.eval x) (lo.map a.eval) (hi.map a.eval) none) (by simp [execOp, ho]) (opSlice_ok hE h hm (h.get x) (ROT.map h lo) (ROT.map h hi) hk)
  · rename_i s x f ho
    exact pureOp (s := Instr.fieldAt s (a.eval x) f) (by simp [execOp, ho]) (opFieldAddr_ok hE (h.get x) hk)
  · rename_i s x f ho
    exact pureOp (s := Instr.field s (a.eval x) f) (by simp [execOp, ho]) (opField_ok hE (h.get x) hk)
  · rename_i t x i ho
    exact pureOp (s := Instr.indexAt t (a.eval x) (a.eval i)) (by simp [execOp, ho]) (opIndexAddr_ok hE h hm (h.get x) (h.get i) hk)
  · rename_i t x i ho
    exact pureOp (s := Instr.index t (a.eval x) (a.eval i)) (by simp [execOp, ho]) (opIndex_ok hE (h.get x) (h.get i) hk)
  · rename_i x i ho
    exact pureOp (s := Instr.extract (a.eval x) i) (by simp [execOp, ho]) (opExtract_ok (h.get x) hk)
  · rename_i t x k ok ho
    exact pureOp (s := Instr.lookup t (a.eval x) (a.eval k) ok) (by simp [execOp, ho]) (opLookup_ok h hm (h.get x) (h.get k) hk)
  · rename_i cl ho
    split at hk
    · rename_i hc
      split at hk
      case h_2 => exact hk.elim
      rename_i x t hx ht
      have hx' : cl.args = #[x] := by rw [← Array.toArray_toList (xs := cl.args), hx]
      have ht' : cl.argTypes = #[t] := by rw [← Array.toArray_toList (xs := cl.argTypes), ht]
      exact pureOp (s := Builtin.len_ #[t] o.type #[a.eval x]) (by simp [execOp, ho, resolve, hc, invoke, builtin, hx', ht']) (opLen_ok hE (h.get x) hk)
    · rename_i hc
      split at hk
      case h_2 => exact hk.elim
      rename_i x y hx
      have hx' : cl.args = #[x, y] := by rw [← Array.toArray_toList (xs := cl.args), hx]
      exact pureOp (s := Builtin.max_ cl.argTypes o.type #[a.eval x, a.eval y]) (by simp [execOp, ho, resolve, hc, invoke, builtin, hx']) (opMinMax_ok (mx := true) (ts := cl.argTypes) (ty := o.type) (h.get x) (h.get y) hk)
    · rename_i hc
      split at hk
      case h_2 => exact hk.elim
      rename_i x y hx
      have hx' : cl.args = #[x, y] := by rw [← Array.toArray_toList (xs := cl.args), hx]
      exact pureOp (s := Builtin.min_ cl.argTypes o.type #[a.eval x, a.eval y]) (by simp [execOp, ho, resolve, hc, invoke, builtin, hx']) (opMinMax_ok (mx := false) (ts := cl.argTypes) (ty := o.type) (h.get x) (h.get y) hk)
    · rename_i f hc
      obtain ⟨v, news, h1, h2⟩ := opCall_ok h hm (h.get f) (RTL.map h cl.args.toList) hk
      refine ⟨v, news, h1, fun hf K' Q hK => ?_⟩
      obtain ⟨g, cs, h3, h4, h5⟩ := h2 hf
      unfold Oper.wp
      rw [run_call h4 a f cl o ho hc h3 rfl, Oper.upon_enter]
      have e : (List.map a.eval cl.args.toList).toArray = cl.args.map a.eval := by apply Array.ext'; simp
      rw [e] at h5
      refine Calls.mono h5 ?_
      rintro e w' ⟨V, rfl, hP⟩
      exact hK V w' hP
    · exact hk.elim
  · exact hk.elim
end
end Go.Proofs.Ytlijeincckbdaaa
namespace Go.Proofs.Ytlijeincckbdaaa
open Go.RowKit
set_option linter.unusedSimpArgs false
set_option linter.unusedVariables false

def AS.set (σ : AS) (s : Nat) (k : Blk) : AS := { σ with mem := fun s' => if s' = s then some k else σ.mem s' }

theorem run_storeCells_unfz (P : Program) (g o : Nat) (t : TypeId) (fz : Nat × Nat) {sz : Nat} : ∀ (vs : List Value) (i : Nat) (cur : Array Value) (w : World), w.heap[g]? = some (.cells cur t fz) → Unfz sz cur fz → o + i + vs.length ≤ cur.size → (∀ v ∈ vs, v.oneCell' = true) →
    (storeCells ⟨g, o, none⟩ vs i).run P w = .ok () (w.setRow g (cur.toList.take (o + i) ++ vs ++ cur.toList.drop (o + i + vs.length)).toArray)
  | [], i, cur, w, hg, _, _, _ => by
    simp only [storeCells, List.append_nil, List.length_nil, Nat.add_zero, List.take_append_drop, Array.toArray_toList]
    rw [setRow_self w g cur t fz hg]
    rfl
  | v :: rest, i, cur, w, hg, hfz, hl, h1 => by
    have hi : o + i < cur.size := by simp at hl; omega
    have hadd : (⟨g, o, none⟩ : Addr).add i = ⟨g, o + i, none⟩ := by unfold Addr.add; split <;> simp_all
    have hcell : w.cell? ⟨g, o + i, none⟩ = some cur[o + i] := by simp [World.cell?, hg, hi]
    have hfro : w.frozen? ⟨g, o + i, none⟩ = false := by
      have := hfz (o + i) (by omega)
      simp only [World.frozen?, hg]
      simpa using this
    have hst : (store ((⟨g, o, none⟩ : Addr).add i) v).run P w = .ok () (w.setRow g (cur.setIfInBounds (o + i) v)) := by
      rw [hadd, run_store P w _ v _ (h1 v (by simp)), hcell]
      simp [hfro, setCell_eq_setRow w g (o + i) cur t fz v hg]
    have ih := run_storeCells_unfz P g o t fz rest (i + 1) (cur.setIfInBounds (o + i) v) (w.setRow g (cur.setIfInBounds (o + i) v)) (setRow_heap w g cur _ t _ hg) (fun j hj => hfz j (by simpa using hj)) (by simp at hl ⊢; omega) (fun x hx => h1 x (by simp [hx]))
    simp only [storeCells, Sem.run_bind, hst, Result.andThen_ok, ih, setRow_setRow]
    congr 3
    have e := list_seg_step cur.toList (o + i) v rest (by simp at hl ⊢; omega)
    simpa [Array.toList_setIfInBounds, Nat.add_assoc] using e

section
variable {P : Program} {w0 w : World} {L : Nat → Prop} {n : Nat} {σ : AS} {a : Act} {c : Ctx} {F : Nat → Nat → Prop}

theorem BlkOk.top {F : Nat → Prop} {s : Nat} {k : Blk} (h : BlkOk c w F s k) {b : Nat} (ht : c.top s b) : F b := by
  cases k with
  | var xs =>
    obtain ⟨b', C, e, fz, a1, a2, a3, a4, a5⟩ := h
    rcases ht with ht | ⟨_, _, ht⟩ <;> rw [a1] at ht <;> cases ht
    exact (a5 b).2 rfl
  | row p sz es =>
    rcases h with ⟨a1, _⟩ | ⟨b', cap, a1, C, e, fz, G, _, _, _, _, _, _, _, _, _, _, _, a12⟩
    · rcases ht with ht | ⟨_, _, ht⟩ <;> rw [a1] at ht <;> cases ht
    · rcases ht with ht | ⟨_, _, ht⟩ <;> rw [a1] at ht <;> cases ht
      exact (a12 b).2 (.inl rfl)
  | par v x => rcases ht with ht | ⟨_, _, ht⟩ <;> rw [h.1] at ht <;> cases ht
  | pin s' i => rcases ht with ht | ⟨_, _, ht⟩ <;> rw [h.1] at ht <;> cases ht
  | mapb b' es =>
    rcases ht with ht | ⟨_, _, ht⟩ <;> rw [h.1] at ht <;> cases ht
    exact (h.2.2 _).2 rfl

theorem H.top_not_I (h : H w0 L n σ a w c F) {s : Nat} {b : Nat} (ht : c.top s b) : F s b ∧ ¬ c.I b := by
  cases hs : σ.mem s with
  | none =>
    have := (h.dom s hs).1
    rcases ht with ht | ⟨_, _, ht⟩ <;> rw [this] at ht <;> cases ht
  | some k =>
    have hF := (h.mem s k hs).top ht
    exact ⟨hF, fun hI => (h.inn s b hF).1 hI ht⟩

/-- The top block of one place is written. -/
theorem H.setBlk (h : H w0 L n σ a w c F) {w' : World} {s : Nat} {k k' : Blk} (hs : σ.mem s = some k) {G : Nat → Prop} (hsub : ∀ b, G b → F s b)
    (hw : ∀ b, ¬ c.top s b → w'.heap[b]? = w.heap[b]?) (hz : w'.heap.size = w.heap.size) (ho : w'.os = w.os) (ht : w'.tape = w.tape) (hp : w'.output = w.output)
    (hk : BlkOk c w' G s k') (hkp : k'.isArg = false := by rfl) (hd : w.drawn ≤ w'.drawn := by first | exact Nat.le_refl _ | exact Nat.le_succ _ | (simp; done)) : H w0 L n (σ.set s k') a w' c (fun s' b => if s' = s then G b else F s' b) := by
  have hI : ∀ b, c.I b → w'.heap[b]? = w.heap[b]? := fun b hb => hw b fun htop => (h.top_not_I htop).2 hb
  have hF : ∀ s', s' ≠ s → ∀ b, F s' b → w'.heap[b]? = w.heap[b]? := fun s' hne b hb => hw b fun htop => hne (h.disj _ _ _ hb (h.top_not_I htop).1)
  refine ⟨h.keeps.step ho ht hp (by omega) (fun b hb hl => hw b fun htop => ?_) hd, h.size, h.defers, fun t => (h.tm t).mono (fun _ _ h => h) (fun _ h => h) hI, fun s' k1 hk1 => ?_, fun s' hs' => ?_, fun s1 s2 b h1 h2 => ?_, fun s' b hb => ?_, fun b hb => by rw [hz]; exact h.imm b hb, fun s' b hb => ?_, fun s' v x hs' => by
    by_cases e : s' = s
    · subst e; simp [AS.set] at hs'; subst hs'; cases hkp
    · simp [AS.set, e] at hs'; exact h.par s' v x hs'⟩
  · rcases (h.new s b (h.top_not_I htop).1).1 with h1 | h1
    · omega
    · exact hl h1
  · by_cases e : s' = s
    · subst e
      simp [AS.set] at hk1
      subst hk1
      simpa using hk
    · simp [AS.set, e] at hk1
      simp only [e, if_false]
      exact (h.mem s' k1 hk1).mono (fun _ _ h => h) (fun _ h => h) hI (hF s' e)
  · have e : s' ≠ s := fun e => by subst e; simp [AS.set] at hs'
    simp [AS.set, e] at hs'
    simpa [e] using h.dom s' hs'
  · have e1 : F s1 b := by
      split at h1
      · rename_i e; subst e; exact hsub b h1
      · exact h1
    have e2 : F s2 b := by
      split at h2
      · rename_i e; subst e; exact hsub b h2
      · exact h2
    exact h.disj _ _ _ e1 e2
  · have e1 : F s' b := by
      split at hb
      · rename_i e; subst e; exact hsub b hb
      · exact hb
    rw [hz]
    exact h.new s' b e1
  · have e1 : F s' b := by
      split at hb
      · rename_i e; subst e; exact hsub b hb
      · exact hb
    exact h.inn s' b e1

def lenIs : List AV → Nat → Bool
  | [], 0 => true
  | _ :: l, n + 1 => lenIs l n
  | _, _ => false
theorem lenIs_ok : ∀ {l : List AV} {n : Nat}, lenIs l n = true → l.length = n
  | [], 0, _ => rfl
  | [], _ + 1, h => by simp [lenIs] at h
  | _ :: _, 0, h => by simp [lenIs] at h
  | _ :: l, n + 1, h => by simp [lenIs_ok (l := l) (n := n) h]

def opStore (E : Tab) (σ : AS) (t : TypeId) (x y : T) (K : AS → Prop) : Prop :=
  match E.ty t, y.cells with
  | some (sz, _), some ys => if lenIs ys sz = true then (match x with
    | .one (.ptr s j) => match σ.mem s with
      | some (.var xs) => if j + sz ≤ xs.length then K (σ.set s (.var (splice sz ys j xs))) else False
      | _ => False
    | .one (.eptr s i j) => match σ.mem s with
      | some (.row p rz es) => ∃ e, es[i]? = some e ∧ if j + sz ≤ e.length then ∃ es', es' = es.set i (e.take j ++ ys.map AV.bor ++ e.drop (j + sz)) ∧ K (σ.set s (.row (p && ys.all fun y => y.bor.isData) rz es')) else False
      | _ => False
    | _ => False) else False
  | _, _ => False

theorem RL.seg {xs ys : List AV} {vs us : List Value} (h : RL c w xs vs) (k : RL c w ys us) (j sz : Nat) (hl : ys.length = sz) : RL c w (xs.take j ++ ys ++ xs.drop (j + sz)) (vs.take j ++ us ++ vs.drop (j + sz)) :=
  ((h.take j).append k).append (h.drop _)

theorem run_storeVar {t : TypeId} {sz : Nat} {g : Bool} (hty : tyI P t = some (sz, g)) {V : Value} (hl : V.cells.size = sz) {b o : Nat} {cur : Array Value} {e : TypeId} {fz : Nat × Nat} (hg : w.heap[b]? = some (.cells cur e fz)) {sz2 : Nat} (hfz : Unfz sz2 cur fz) (hfit : o + sz ≤ cur.size) (h1 : ∀ v ∈ V.cells.toList, v.oneCell' = true) :
    (Instr.storeAt t (.pointer (some ⟨b, o, none⟩)) V).run P w = .ok () (w.setRow b (cur.toList.take o ++ V.cells.toList ++ cur.toList.drop (o + sz)).toArray) := by
  obtain ⟨i, d, hi, hd, rfl, _, _⟩ := tyI_some hty
  have := run_storeCells_unfz P b o e fz V.cells.toList 0 cur w hg hfz (by simpa [hl] using hfit) h1
  simp only [Nat.add_zero, Array.length_toList, hl] at this
  simp [Instr.storeAt, Instr.sureAddr, storeVar, run_sizeOf hi, hl, this]

theorem RL.set_world {xs : List AV} {vs : List Value} {w' : World} (h : RL c w xs vs) (hI : ∀ b, c.I b → w'.heap[b]? = w.heap[b]?) : RL c w' xs vs := h.mono (fun _ _ h => h) (fun _ h => h) hI

theorem opStore_ok {E : Tab} (hE : E.ok P) (h : H w0 L n σ a w c F) {t : TypeId} {x y : T} {X Y : Value} {K : AS → Prop} (hX : RT c w x X) (hY : RT c w y Y) (hk : opStore E σ t x y K) :
    ∃ σ' w', K σ' ∧ (Instr.storeAt t X Y).run P w = .ok () w' ∧ ∃ c' F', H w0 L n σ' a w' c' F' := by
  unfold opStore at hk
  simp only [splice_eq] at hk
  split at hk
  case h_2 => exact hk.elim
  rename_i sz g ys hty hys
  replace hty := Tab.ty_ok hE hty
  split at hk
  case isFalse => exact hk.elim
  rename_i hl
  replace hl := lenIs_ok hl
  have hYc := RT_cells hys hY
  have hYl : Y.cells.size = sz := by have := hYc.length; rw [hl] at this; simpa using this.symm
  split at hk
  · rename_i s j
    split at hk
    case h_2 => exact hk.elim
    rename_i xs hs
    split at hk
    case isFalse => exact hk.elim
    rename_i hle
    obtain ⟨hX, _⟩ := hX
    cases hX with | @ptr _ _ b hp =>
    obtain ⟨b', C, e, fz, a1, a2, a3, a4, a5⟩ := h.mem s _ hs
    rw [hp] at a1; cases a1
    have hCl : j + sz ≤ C.size := by have := a4.length; rw [this] at hle; simpa using hle
    have hrun := run_storeVar (P := P) (o := j) hty hYl a2 a3 hCl hYc.ones
    refine ⟨_, _, hk, hrun, c, _, h.setBlk hs (G := F s) (fun _ h => h) (fun b' hb' => setRow_other w b b' _ fun e => hb' (by subst e; exact .inl hp)) (by simp) rfl rfl rfl ?_⟩
    have hI : ∀ q, c.I q → (w.setRow b (C.toList.take j ++ Y.cells.toList ++ C.toList.drop (j + sz)).toArray).heap[q]? = w.heap[q]? := fun q hq => setRow_other w b q _ fun e => by
      subst e; exact (h.top_not_I (.inl hp)).2 hq
    refine ⟨b, _, e, fz, hp, setRow_heap w b C _ e fz a2, fun i hi => a3 i ?_, ?_, a5⟩
    · simp at hi; omega
    · exact ((a4.seg hYc j sz hl).set_world hI)
  · rename_i s i j
    split at hk
    case h_2 => exact hk.elim
    rename_i p rz es hs
    obtain ⟨e, he, hk⟩ := hk
    split at hk
    case isFalse => exact hk.elim
    rename_i hle
    obtain ⟨_, rfl, hk⟩ := hk
    obtain ⟨hX, _⟩ := hX
    cases hX with | @eptr _ _ _ b cap rz' hp =>
    rcases h.mem s _ hs with ⟨a1, _⟩ | ⟨b', cap', a1, C, el, fz, G, b1, b2, b3, b4, b5, b6, b7, b8, b9, b10, b11, b12⟩
    · rw [hp] at a1; cases a1
    rw [hp] at a1; cases a1
    obtain ⟨hi, rfl⟩ := List.getElem?_eq_some_iff.1 he
    have hel := b6 _ (List.getElem_mem hi)
    have hfit : i * rz + j + sz ≤ C.size := by
      rw [b5]
      have : (i + 1) * rz ≤ cap * rz := Nat.mul_le_mul_right _ (by omega)
      rw [Nat.add_mul] at this; omega
    have hrun := run_storeVar (P := P) (o := i * rz + j) hty hYl b1 b2 hfit hYc.ones
    have hI : ∀ q, c.I q → (w.setRow b (C.toList.take (i * rz + j) ++ Y.cells.toList ++ C.toList.drop (i * rz + j + sz)).toArray).heap[q]? = w.heap[q]? := fun q hq => setRow_other w b q _ fun e => by
      subst e; exact (h.top_not_I (.inr ⟨_, _, hp⟩)).2 hq
    -- the blocks that the row owns behind the store
    let G' : Nat → Nat → Nat → Prop := fun i' j' k => ¬ (i' = i ∧ j ≤ j' ∧ j' < j + sz) ∧ G i' j' k
    have hbF : ∀ i j k, G i j k → F s k := fun i j k hk => (b12 k).2 (.inr ⟨i, j, hk⟩)
    refine ⟨_, _, hk, hrun, c, _, h.setBlk hs (G := fun k => k = b ∨ ∃ i j, G' i j k) (fun k hk => ?_) (fun b' hb' => setRow_other w b b' _ fun e => hb' (by subst e; exact .inr ⟨_, _, hp⟩)) (by simp) rfl rfl rfl ?_⟩
    · rcases hk with rfl | ⟨i', j', hk⟩
      · exact (b12 k).2 (.inl rfl)
      · exact hbF _ _ _ hk.2
    -- a cell of the new row: an old one, or one of the new value's
    have hcell : ∀ (i' j' : Nat) (x : AV), elt (es.set i (es[i].take j ++ ys.map AV.bor ++ es[i].drop (j + sz))) i' j' = some x →
        (¬ (i' = i ∧ j ≤ j' ∧ j' < j + sz) ∧ elt es i' j' = some x) ∨ (i' = i ∧ j ≤ j' ∧ j' < j + sz ∧ ∃ y, ys[j' - j]? = some y ∧ x = y.bor) := fun i' j' x hx => by
      unfold elt at hx
      rw [List.getElem?_set] at hx
      by_cases e : i = i'
      · subst e
        rw [if_pos rfl, if_pos hi] at hx
        simp only [Option.bind_some] at hx
        have hlt : (es[i].take j).length = j := by rw [List.length_take]; omega
        by_cases h1 : j' < j
        · rw [List.append_assoc, List.getElem?_append_left (by omega), List.getElem?_take, if_pos h1] at hx
          exact .inl ⟨by omega, by simp [elt, hi, hx]⟩
        · by_cases h2 : j' < j + sz
          · rw [List.append_assoc, List.getElem?_append_right (by omega), hlt, List.getElem?_append_left (by simp [hl]; omega), List.getElem?_map] at hx
            cases hy : ys[j' - j]? with
            | none => simp [hy] at hx
            | some y => simp [hy] at hx; exact .inr ⟨rfl, by omega, h2, y, rfl, hx.symm⟩
          · rw [List.getElem?_append_right (by simp [hl]; omega)] at hx
            simp only [List.length_append, hlt, List.length_map, hl, List.getElem?_drop] at hx
            rw [show j + sz + (j' - (j + sz)) = j' by omega] at hx
            exact .inl ⟨by omega, by simp [elt, hi, hx]⟩
      · rw [if_neg e] at hx
        exact .inl ⟨fun h => e h.1.symm, hx⟩
    have hval : ∀ (i' j' : Nat), i' < es.length → j' < rz → ∀ v, (C.toList.take (i * rz + j) ++ Y.cells.toList ++ C.toList.drop (i * rz + j + sz)).toArray[i' * rz + j']? = some v →
        (¬ (i' = i ∧ j ≤ j' ∧ j' < j + sz) → C[i' * rz + j']? = some v) ∧ (i' = i ∧ j ≤ j' ∧ j' < j + sz → Y.cells.toList[j' - j]? = some v) := fun i' j' hi' hj' v hv => by
      have hlt : (C.toList.take (i * rz + j)).length = i * rz + j := by rw [List.length_take, Array.length_toList]; omega
      have hv' : (C.toList.take (i * rz + j) ++ Y.cells.toList ++ C.toList.drop (i * rz + j + sz))[i' * rz + j']? = some v := by simpa using hv
      have hYs : Y.cells.toList.length = sz := by simpa using hYl
      refine ⟨fun hn => ?_, fun hy => ?_⟩
      · by_cases h1 : i' * rz + j' < i * rz + j
        · rw [List.append_assoc, List.getElem?_append_left (by omega), List.getElem?_take, if_pos h1] at hv'
          simpa using hv'
        · have h2 : ¬ i' * rz + j' < i * rz + j + sz := fun h2 => hn (by
            have e : i' = i := by
              rcases Nat.lt_trichotomy i' i with h | h | h
              · have : (i' + 1) * rz ≤ i * rz := Nat.mul_le_mul_right _ h
                rw [Nat.add_mul] at this; omega
              · exact h
              · have : (i + 1) * rz ≤ i' * rz := Nat.mul_le_mul_right _ h
                rw [Nat.add_mul] at this; omega
            subst e
            omega)
          rw [List.getElem?_append_right (by simp only [List.length_append, hlt, hYs]; omega)] at hv'
          simp only [List.length_append, hlt, hYs, List.getElem?_drop] at hv'
          rw [show i * rz + j + sz + (i' * rz + j' - (i * rz + j + sz)) = i' * rz + j' by omega] at hv'
          simpa using hv'
      · obtain ⟨rfl, h1, h2⟩ := hy
        rw [List.append_assoc, List.getElem?_append_right (by omega), hlt, List.getElem?_append_left (by omega)] at hv'
        rw [← hv']; congr 1; omega
    have hlen' : ∀ e' ∈ es.set i (es[i].take j ++ ys.map AV.bor ++ es[i].drop (j + sz)), e'.length = rz := fun e' he' => by
      rcases List.mem_or_eq_of_mem_set he' with h1 | h1
      · exact b6 _ h1
      · subst h1; simp [hl, hel]; omega
    refine .inr ⟨b, cap, hp, _, el, fz, G', setRow_heap w b C _ el fz b1, fun q hq => b2 q ?_, by simpa using b3, b4, ?_, hlen', fun i' j' x v hx hv => ?_, fun i' j' x v hx hv => ?_, fun i' j' hk => b9 _ _ hk.2, fun i1 j1 i2 j2 k h1 h2 => b10 _ _ _ _ _ h1.2 h2.2, fun i' j' k hk => ?_, fun k => Iff.rfl⟩
    · simp [hYl] at hq; omega
    · simp [hYl]; omega
    · obtain ⟨hi', hj'⟩ := elt_lt hlen' hx
      obtain ⟨v1, v2⟩ := hval i' j' (by simpa using hi') hj' v hv
      rcases hcell i' j' x hx with ⟨hn, hx'⟩ | ⟨e1, e2, e3, y, hy, rfl⟩
      · exact b7 i' j' x v hx' (v1 hn)
      · exact (hYc.at hy (v2 ⟨e1, e2, e3⟩)).2
    · obtain ⟨hi', hj'⟩ := elt_lt hlen' hx
      obtain ⟨v1, v2⟩ := hval i' j' (by simpa using hi') hj' v hv
      rcases hcell i' j' x hx with ⟨hn, hx'⟩ | ⟨e1, e2, e3, y, hy, rfl⟩
      · have hG : ∀ k, G' i' j' k ↔ G i' j' k := fun k => by simp only [G', and_iff_right hn]
        have hG2 : G' i' j' = G i' j' := funext fun k => propext (hG k)
        rw [hG2]
        rcases b8 i' j' x v hx' (v1 hn) with h1 | ⟨h1, h2, h3⟩
        · exact .inl (h1.mono (fun _ _ h => h) (fun _ h => h) hI fun k hk => setRow_other w b k _ fun e => by subst e; exact b9 _ _ hk)
        · exact .inr ⟨by rw [h1]; rfl, h2, h3.1.mono (fun _ _ h => h) (fun _ h => h) hI, h3.2⟩
      · have hno : ∀ k, ¬ G' i' j' k := fun k hk => hk.1 ⟨e1, e2, e3⟩
        have hR := ((hYc.at hy (v2 ⟨e1, e2, e3⟩)).1.mono (fun _ _ h => h) (fun _ h => h) hI).bor
        cases hd : y.bor.isData with
        | true => exact .inl (.plain hd hR hno)
        | false =>
          refine .inr ⟨?_, hno, hR, by cases hc : y.bor.isCell with
            | false => rfl
            | true => rw [bor_cell hc] at hd; cases hd⟩
          rw [Bool.and_eq_false_iff]
          right
          rw [List.all_eq_false]
          exact ⟨y, List.mem_of_getElem? hy, by simp [hd]⟩
    · have hx := b11 i' j' k hk.2
      obtain ⟨x, hx⟩ := Option.isSome_iff_exists.1 hx
      have : elt (es.set i (es[i].take j ++ ys.map AV.bor ++ es[i].drop (j + sz))) i' j' = some x := by
        unfold elt at hx ⊢
        rw [List.getElem?_set]
        by_cases e : i = i'
        · subst e
          rw [if_pos rfl, if_pos hi]
          simp only [Option.bind_some]
          have hlt : (es[i].take j).length = j := by rw [List.length_take]; omega
          simp [hi] at hx
          by_cases h1 : j' < j
          · rw [List.append_assoc, List.getElem?_append_left (by omega), List.getElem?_take, if_pos h1]; exact hx
          · have h2 : ¬ j' < j + sz := fun h2 => hk.1 ⟨rfl, by omega, h2⟩
            rw [List.getElem?_append_right (by simp [hl]; omega)]
            simp only [List.length_append, hlt, List.length_map, hl, List.getElem?_drop]
            rw [show j + sz + (j' - (j + sz)) = j' by omega]; exact hx
        · rw [if_neg e]; exact hx
      rw [this]; rfl
  · exact hk.elim
end
end Go.Proofs.Ytlijeincckbdaaa
namespace Go.Proofs.Ytlijeincckbdaaa
open Go.RowKit
set_option linter.unusedSimpArgs false
set_option linter.unusedVariables false

def AV.noref (s : Nat) : AV → Bool
  | .ptr s' _ => s' != s
  | .eptr s' _ _ => s' != s
  | .loc s' _ _ => s' != s
  | .fn _ _ => false
  | _ => true
def AV.kill (s : Nat) : AV → AV
  | .ptr s' j => if s' = s then .dead else .ptr s' j
  | .eptr s' i j => if s' = s then .dead else .eptr s' i j
  | .loc s' o l => if s' = s then .dead else .loc s' o l
  | .fn f caps => if caps.all (AV.noref s) then .fn f caps else .dead
  | x => x
def T.kill (s : Nat) : T → T
  | .one x => .one (x.kill s)
  | .agg xs => .agg (xs.map (AV.kill s))
  | .tup ts => .tup (ts.map fun t => (t.1, t.2.map (AV.kill s)))
  | .dead => .dead
def Blk.kill (s : Nat) : Blk → Blk
  | .var xs => .var (xs.map (AV.kill s))
  | .row true sz es => .row true sz es
  | .row false sz es => .row false sz (es.map fun e => e.map (AV.kill s))
  | .par v x => .par v x
  | .pin s' i => if s' = s then .row true 0 [] else .pin s' i
  | .mapb b es => .mapb b es
def AS.drop (σ : AS) (s : Nat) : AS := ⟨fun t => (σ.tm t).kill s, fun s' => if s' = s then none else (σ.mem s').map (Blk.kill s)⟩
def Ctx.del (c : Ctx) (s : Nat) : Ctx := ⟨fun s' => if s' = s then none else c.at_ s', c.I⟩

section
variable {P : Program} {w0 w : World} {L : Nat → Prop} {n : Nat} {σ : AS} {a : Act} {c : Ctx} {F : Nat → Nat → Prop}

theorem R.noref {s : Nat} {x : AV} {v : Value} (h : R c w x v) (hn : x.noref s = true) : R (c.del s) w x v := by
  cases x with
  | dead => exact .dead v
  | lit => cases h; exact .lit _
  | ptr s' j => cases h with | ptr h => simp [AV.noref] at hn; exact .ptr (by simp [Ctx.del, hn, h])
  | eptr s' i j => cases h with | @eptr _ _ _ b cap sz h => simp [AV.noref] at hn; exact .eptr (b := b) (cap := cap) (sz := sz) (by simp [Ctx.del, hn, h])
  | loc s' o l =>
    simp [AV.noref] at hn
    cases h with
    | loc h a b => exact .loc (by simp [Ctx.del, hn, h]) a b
    | locnil h => exact .locnil (by simp [Ctx.del, hn, h])
  | row => exact R.free (c := c) (c' := c.del s) (fun _ h => h) (fun _ _ => rfl) h rfl
  | bptr => exact R.free (c := c) (c' := c.del s) (fun _ h => h) (fun _ _ => rfl) h rfl
  | nn => exact R.free (c := c) (c' := c.del s) (fun _ h => h) (fun _ _ => rfl) h rfl
  | fn => simp [AV.noref] at hn

theorem R.kill {s : Nat} {x : AV} {v : Value} (h : R c w x v) : R (c.del s) w (x.kill s) v := by
  cases x with
  | dead => exact .dead v
  | lit => exact h.noref rfl
  | row => exact h.noref rfl
  | bptr => exact h.noref rfl
  | nn => exact h.noref rfl
  | ptr s' j =>
    simp only [AV.kill]
    split
    · exact .dead v
    · exact h.noref (by simpa [AV.noref])
  | eptr s' i j =>
    simp only [AV.kill]
    split
    · exact .dead v
    · exact h.noref (by simpa [AV.noref])
  | loc s' o l =>
    simp only [AV.kill]
    split
    · exact .dead v
    · exact h.noref (by simpa [AV.noref])
  | fn f caps =>
    simp only [AV.kill]
    split
    · rename_i hc
      cases h with | fn a1 a0 a2 => exact .fn a1 a0 (fun k x v hx hv => (a2 k x v hx hv).noref (List.all_eq_true.1 hc _ (List.mem_of_getElem? hx)))
    · exact .dead v

theorem RL.kill {s : Nat} : ∀ {xs : List AV} {vs : List Value}, RL c w xs vs → RL (c.del s) w (xs.map (AV.kill s)) vs
  | [], [], _ => trivial
  | _ :: _, _ :: _, h => ⟨⟨h.1.1.kill, h.1.2⟩, RL.kill h.2⟩
theorem RTs.kill {s : Nat} : ∀ {ts : List (Bool × List AV)} {vs : List Value}, RTs c w ts vs → RTs (c.del s) w (ts.map fun t => (t.1, t.2.map (AV.kill s))) vs
  | [], [], _ => trivial
  | (false, [x]) :: _, _ :: _, h => ⟨⟨h.1.1.kill, h.1.2⟩, RTs.kill h.2⟩
  | (true, _) :: _, .agg _ :: _, h => ⟨RL.kill h.1, RTs.kill h.2⟩
theorem RT.kill {s : Nat} {t : T} {v : Value} (h : RT c w t v) : RT (c.del s) w (t.kill s) v := by
  cases t with
  | dead => trivial
  | one x => exact ⟨h.1.kill, h.2⟩
  | agg xs => cases v <;> first | exact h.elim | exact RL.kill h
  | tup ts => cases v <;> first | exact h.elim | exact RTs.kill h

theorem RO.ctx {c' : Ctx} (h2 : ∀ b, c.I b → c'.I b) {F : Nat → Prop} {x : AV} {v : Value} (h : RO c w F x v) : RO c' w F x v := by
  induction h with
  | @plain F x v a1 a2 a3 => exact .plain a1 (a2.free h2 (fun _ _ => rfl) (by cases x <;> simp_all [AV.isData, AV.isFree])) a3
  | nil a => exact .nil a
  | own b C e fz G a1 a2 a3 a4 a5 a6 a7 a8 a9 a10 a11 a12 a13 ih => exact .own b C e fz G a1 a2 a3 a4 a5 a6 a7 ih a9 a10 a11 a12 a13

theorem elt_map {es : List (List AV)} {f : AV → AV} {i j : Nat} {x : AV} (h : elt (es.map fun e => e.map f) i j = some x) : ∃ y, elt es i j = some y ∧ x = f y := by
  unfold elt at h ⊢
  rw [List.getElem?_map] at h
  cases he : es[i]? with
  | none => simp [he] at h
  | some e =>
    simp only [he, Option.map_some, Option.bind_some, List.getElem?_map] at h ⊢
    cases hy : e[j]? with
    | none => simp [hy] at h
    | some y => simp [hy] at h; exact ⟨y, rfl, h.symm⟩

theorem AV.kill_cell {s : Nat} {x : AV} (h : x.isCell = true) : x.kill s = x := by cases x <;> first | rfl | simp [AV.isCell] at h

theorem RowB.kill {s : Nat} {b cap sz : Nat} {es : List (List AV)} {F : Nat → Prop} (h : RowB c w false b cap sz es F) : RowB (c.del s) w false b cap sz (es.map fun e => e.map (AV.kill s)) F := by
  obtain ⟨C, e, fz, G, a1, a2, a3, a4, a5, a6, a7, a8, a9, a10, a11, a12⟩ := h
  refine ⟨C, e, fz, G, a1, a2, by simpa using a3, a4, a5, fun e' he' => ?_, fun i j x v hx hv => ?_, fun i j x v hx hv => ?_, a9, a10, fun i j k hk => ?_, a12⟩
  · obtain ⟨e'', h1, rfl⟩ := List.mem_map.1 he'; simpa using a6 _ h1
  · obtain ⟨y, hy, rfl⟩ := elt_map hx; exact a7 i j y v hy hv
  · obtain ⟨y, hy, rfl⟩ := elt_map hx
    rcases a8 i j y v hy hv with h1 | ⟨h1, h2, h3⟩
    · rw [AV.kill_cell h1.isCell]; exact .inl (RO.ctx (c := c) (c' := c.del s) (fun _ h => h) h1)
    · exact .inr ⟨h1, h2, h3.1.kill, by have h4 := h3.2; cases y <;> first | exact h4 | (simp only [AV.kill]; split <;> exact h4) | (simp only [AV.kill]; split <;> rfl) | rfl⟩
  · have := a11 i j k hk
    obtain ⟨x, hx⟩ := Option.isSome_iff_exists.1 this
    unfold elt at hx ⊢
    rw [List.getElem?_map]
    cases he : es[i]? with
    | none => simp [he] at hx
    | some e => simp [he] at hx ⊢; exact (List.getElem?_eq_some_iff.1 hx).1

theorem BlkOk.kill {F : Nat → Prop} {s s' : Nat} (hs : s' ≠ s) {k : Blk} (h : BlkOk c w F s' k) : BlkOk (c.del s) w F s' (k.kill s) := by
  cases k with
  | var xs =>
    obtain ⟨b, C, e, fz, a1, a2, a3, a4, a5⟩ := h
    exact ⟨b, C, e, fz, by simp [Ctx.del, hs, a1], a2, a3, a4.kill, a5⟩
  | row p sz es =>
    cases p with
    | true =>
      rcases h with ⟨a1, a2, a3⟩ | ⟨b, cap, a1, C, e, fz, G, b1, b2, b3, b4, b5, b6, b7, b8, b9, b10, b11, b12⟩
      · exact .inl ⟨by simp [Ctx.del, hs, a1], a2, a3⟩
      · exact .inr ⟨b, cap, by simp [Ctx.del, hs, a1], C, e, fz, G, b1, b2, b3, b4, b5, b6, b7, fun i j x v hx hv => .inl (RO.ctx (c := c) (c' := c.del s) (fun _ h => h) ((b8 i j x v hx hv).resolve_right (by simp))), b9, b10, b11, b12⟩
    | false =>
      rcases h with ⟨a1, rfl, a3⟩ | ⟨b, cap, a1, hB⟩
      · exact .inl ⟨by simp [Ctx.del, hs, a1], rfl, a3⟩
      · exact .inr ⟨b, cap, by simp [Ctx.del, hs, a1], hB.kill⟩
  | par v x => exact ⟨by simp [Ctx.del, hs, h.1], h.2⟩
  | pin s2 i =>
    obtain ⟨a1, a2, a3⟩ := h
    simp only [Blk.kill]
    split
    · exact .inl ⟨by simp [Ctx.del, hs, a1], rfl, a2⟩
    · rename_i hne
      exact ⟨by simp [Ctx.del, hs, a1], a2, by simp [Ctx.del, hne, a3]⟩
  | mapb b es => exact ⟨by simp [Ctx.del, hs, h.1], h.2⟩

/-- A place is given up: what spoke of it says nothing any more. -/
theorem H.drop (h : H w0 L n σ a w c F) (s : Nat) : H w0 L n (σ.drop s) a w (c.del s) (fun s' b => s' ≠ s ∧ F s' b) := by
  refine ⟨h.keeps, h.size, h.defers, fun t => (h.tm t).kill, fun s' k hk => ?_, fun s' hs' => ?_, fun s1 s2 b h1 h2 => h.disj _ _ _ h1.2 h2.2, fun s' b hb => h.new s' b hb.2, h.imm, fun s' b hb => ?_, fun s' v x hk => ?_⟩
  · by_cases e : s' = s
    · subst e; simp [AS.drop] at hk
    · simp [AS.drop, e] at hk
      obtain ⟨k', hk', rfl⟩ := hk
      have := (h.mem s' k' hk').kill (s := s) e
      rw [show (fun b => s' ≠ s ∧ F s' b) = F s' from funext fun b => propext (by simp [e])]
      exact this
  · by_cases e : s' = s
    · subst e; exact ⟨by simp [Ctx.del], fun k hk => hk.1 rfl⟩
    · simp [AS.drop, e] at hs'
      have := h.dom s' hs'
      exact ⟨by simp [Ctx.del, this.1], fun k hk => this.2 k hk.2⟩
  · have := h.inn s' b hb.2
    rw [show (c.del s).I b ↔ c.I b from Iff.rfl, this]
    simp [Ctx.top, Ctx.del, hb.1]
  · by_cases e : s' = s
    · subst e; simp [AS.drop] at hk
    · simp [AS.drop, e] at hk
      obtain ⟨k', hk', hk2⟩ := hk
      cases k' with
      | par v' x' => cases hk2; exact h.par s' _ _ hk'
      | var xs => cases hk2
      | row p sz es => cases p <;> cases hk2
      | pin s2 i =>
        simp only [Blk.kill] at hk2
        split at hk2 <;> cases hk2
      | mapb b es => cases hk2

/-- What append leaves, case by case. -/
theorem run_append_nothing {t ty e : TypeId} {i : TypeInfo} (ht : P.underlying t = some (.slice e)) (hi : P.info? e = some i) {X : Value} {A : Option Addr} {cp : Nat} (hX : X = .slice none 0 0 ∨ ∃ g m cap, X = .slice (some g) m cap ∧ m ≤ cap) :
    (Builtin.append_ #[t, t] ty #[X, .slice A 0 cp]).run P w = .ok X w := by
  have h1 : ∀ (s : Nat), (Builtin.firstCells s 0 (.slice A 0 cp)).run P w = .ok #[] w := fun s => by
    cases A <;> simp [Builtin.firstCells, loadCells, loadCellsFrom]
  rcases hX with rfl | ⟨g, m, cap, rfl, hm⟩
  · simp [Builtin.append_, run_underlying ht, sizeOf, typeInfo, hi, Builtin.lenOf, h1]
  · simp [Builtin.append_, run_underlying ht, sizeOf, typeInfo, hi, Builtin.lenOf, h1, hm, storeCells]

theorem run_append_place {t ty e : TypeId} {i : TypeInfo} (ht : P.underlying t = some (.slice e)) (hi : P.info? e = some i)
    {g sLen sCap : Nat} {cur : Array Value} {el : TypeId} {fz : Nat × Nat} (hg : w.heap[g]? = some (.cells cur el fz)) {sz : Nat} (hfz : Unfz sz cur fz)
    {a : Addr} {m c : Nat} {news : List Value} (hl : news.length = m * i.size) (hnews : ∀ j v, news[j]? = some v → w.cell? (a.add j) = some v) (h1 : ∀ u ∈ news, u.oneCell' = true)
    (hroom : sLen + m ≤ sCap) (hfit : sLen * i.size + news.length ≤ cur.size) :
    (Builtin.append_ #[t, t] ty #[.slice (some ⟨g, 0, none⟩) sLen sCap, .slice (some a) m c]).run P w =
      .ok (.slice (some ⟨g, 0, none⟩) (sLen + m) sCap) (w.setRow g (cur.toList.take (sLen * i.size) ++ news ++ cur.toList.drop (sLen * i.size + news.length)).toArray) := by
  have hf := run_firstCells_some (P := P) w i.size m a m c news hl hnews
  have hst := run_storeCells_unfz P g (sLen * i.size) el fz news 0 cur w hg hfz (by simpa using hfit) h1
  simp only [Nat.add_zero] at hst
  simp [Builtin.append_, run_underlying ht, sizeOf, typeInfo, hi, Builtin.lenOf, hroom, hf, Addr.add_lit, hst]
end
end Go.Proofs.Ytlijeincckbdaaa
namespace Go.Proofs.Ytlijeincckbdaaa
open Go.RowKit
set_option linter.unusedSimpArgs false
set_option linter.unusedVariables false

section
variable {P : Program} {w0 w : World} {L : Nat → Prop} {n : Nat} {σ : AS} {a : Act} {c : Ctx} {F : Nat → Nat → Prop}

/-- The world moves on: what is read, what is owned and what was lent to nobody stays. -/
theorem H.touch (h : H w0 L n σ a w c F) {w' : World} (ho : w'.os = w.os) (ht : w'.tape = w.tape) (hp : w'.output = w.output) (hz : w.heap.size ≤ w'.heap.size)
    (hI : ∀ b, c.I b → w'.heap[b]? = w.heap[b]?) (hF : ∀ s b, F s b → w'.heap[b]? = w.heap[b]?) (hK : ∀ b, b < w0.heap.size → ¬ L b → w'.heap[b]? = w.heap[b]?) (hd : w.drawn ≤ w'.drawn := by first | exact Nat.le_refl _ | exact Nat.le_succ _ | (simp; done)) : H w0 L n σ a w' c F :=
  ⟨h.keeps.step ho ht hp hz hK hd, h.size, h.defers, fun t => (h.tm t).mono (fun _ _ h => h) (fun _ h => h) hI, fun s k hk => (h.mem s k hk).mono (fun _ _ h => h) (fun _ h => h) hI (hF s), h.dom, h.disj,
    fun s b hb => ⟨(h.new s b hb).1, Nat.lt_of_lt_of_le (h.new s b hb).2 hz⟩, fun b hb => Nat.lt_of_lt_of_le (h.imm b hb) hz, h.inn, h.par⟩

theorem elt_append {es src : List (List AV)} {i j : Nat} {x : AV} (h : elt (es ++ src) i j = some x) : (i < es.length ∧ elt es i j = some x) ∨ (es.length ≤ i ∧ elt src (i - es.length) j = some x) := by
  unfold elt at h ⊢
  rw [List.getElem?_append] at h
  split at h
  · exact .inl ⟨by assumption, h⟩
  · exact .inr ⟨by omega, h⟩

theorem kill_cell {s : Nat} {y : AV} (h : (y.bor.kill s).isCell = true) : (y.bor.kill s).isData = true := by
  cases y <;> simp only [AV.bor, AV.kill] at h ⊢ <;> first | rfl | (split at h <;> cases h) | cases h
theorem RowB.build {p : Bool} {b cap sz : Nat} {es src : List (List AV)} {C : Array Value} {e : TypeId} {fz : Nat × Nat} {G : Nat → Nat → Nat → Prop} (hC : w.heap[b]? = some (.cells C e fz)) (hfz : Unfz sz C fz) (hl : es.length + src.length ≤ cap) (hm : cap ≤ maxLen) (hs : C.size = cap * sz)
    (he : ∀ e ∈ es, e.length = sz) (hsrc : ∀ e ∈ src, e.length = sz)
    (h8 : ∀ (i j : Nat) (x : AV) (v : Value), elt es i j = some x → C[i * sz + j]? = some v → v.oneCell' = true ∧ RO c w (G i j) x v)
    (h9 : ∀ (i j : Nat) (x : AV) (v : Value), elt src i j = some x → C[(es.length + i) * sz + j]? = some v → v.oneCell' = true ∧ R c w x v ∧ (p = true → x.isData = true) ∧ (x.isCell = true → x.isData = true))
    (g1 : ∀ i j, ¬ G i j b) (g2 : ∀ i j i' j' k, G i j k → G i' j' k → i = i' ∧ j = j') (g3 : ∀ i j k, G i j k → (elt es i j).isSome = true) : RowB c w p b cap sz (es ++ src) (fun k => k = b ∨ ∃ i j, G i j k) := by
  have hno : ∀ i j, es.length ≤ i → ∀ k, ¬ G i j k := fun i j hi k hk => by
    obtain ⟨x, hx⟩ := Option.isSome_iff_exists.1 (g3 i j k hk)
    have := (elt_lt he hx).1
    omega
  refine ⟨C, e, fz, G, hC, hfz, by simpa using hl, hm, hs, fun e h => ?_, fun i j x v hx hv => ?_, fun i j x v hx hv => ?_, g1, g2, fun i j k hk => ?_, fun k => Iff.rfl⟩
  · rcases List.mem_append.1 h with h | h
    · exact he e h
    · exact hsrc e h
  · rcases elt_append hx with ⟨_, hx⟩ | ⟨hi, hx⟩
    · exact (h8 i j x v hx hv).1
    · exact (h9 (i - es.length) j x v hx (by rw [show es.length + (i - es.length) = i by omega]; exact hv)).1
  · rcases elt_append hx with ⟨_, hx⟩ | ⟨hi, hx⟩
    · exact .inl (h8 i j x v hx hv).2
    · obtain ⟨_, h1, h2⟩ := h9 (i - es.length) j x v hx (by rw [show es.length + (i - es.length) = i by omega]; exact hv)
      cases hd : x.isCell with
      | true => exact .inl (.plain (h2.2 hd) h1 (hno i j hi))
      | false =>
        cases p with
        | true =>
          have h3 := h2.1 rfl
          exact absurd hd (by cases x <;> first | (intro h5; cases h5; done) | (intro h5; cases h3; done))
        | false => exact .inr ⟨rfl, hno i j hi, h1, by first | exact hd | rfl⟩
  · have h1 := g3 i j k hk
    obtain ⟨x, hx⟩ := Option.isSome_iff_exists.1 h1
    have hi := (elt_lt he hx).1
    have h2 : (es ++ src)[i]? = es[i]? := List.getElem?_append_left hi
    unfold elt at h1 ⊢
    rw [h2]; exact h1

def T.noref (s : Nat) : T → Bool
  | .one x => x.noref s
  | _ => false

/-- The elements as they are laid. -/
def laid (p : Bool) (s : Nat) (src : List (List AV)) : List (List AV) := if p then src.map fun e => e.map AV.bor else src.map fun e => e.map fun x => x.bor.kill s

def opAppend (E : Tab) (σ : AS) (site : Nat) (t : TypeId) (x y : T) (K : AS → T → Prop) : Prop :=
  match E.el t with
  | some (e, sz, by_) => match E.zr e with
    | some zs => if zs.length = sz then ∃ p2 src, opSrc σ.mem sz y p2 src ∧ ∃ src', match x with
        | .one (.lit (.slice none 0 0)) => src' = src.map (fun e => e.map AV.bor) ∧ σ.mem site = none ∧ src.length ≤ maxLen ∧ src.length * by_ ≤ 140737488355328 ∧
            K (σ.add site (.row p2 sz src')) (.one (.loc site 0 src.length))
        | .one (.loc s off len) => match σ.mem s with
          | some (.row true rz es) => if rz = sz then src' = laid p2 s src ∧ off = 0 ∧ len = es.length ∧ y.noref s = true ∧ es.length + src.length ≤ maxLen ∧ (es.length + src.length) * by_ ≤ 140737488355328 ∧
              K ((σ.drop s).add s (.row p2 sz (es ++ src'))) (.one (.loc s 0 (es.length + src.length))) else False
          | _ => False
        | _ => False
      else False
    | none => False
  | none => False

theorem laid_len (p : Bool) (s : Nat) (src : List (List AV)) : (laid p s src).length = src.length := by unfold laid; split <;> simp
theorem laid_lens {p : Bool} {s sz : Nat} {src : List (List AV)} (h : ∀ e ∈ src, e.length = sz) : ∀ e ∈ laid p s src, e.length = sz := by
  intro e he
  unfold laid at he
  split at he
  · obtain ⟨e', h1, rfl⟩ := List.mem_map.1 he; simpa using h e' h1
  · obtain ⟨e', h1, rfl⟩ := List.mem_map.1 he; simpa using h e' h1
theorem bor_data {x : AV} (h : x.isCell = true) : x.bor.isData = true := by cases x <;> first | rfl | simp [AV.isCell] at h

theorem opAppend_ok {E : Tab} (hE : E.ok P) (h : H w0 L n σ a w c F) {site t ty : Nat} {x y : T} {X Y : Value} {K : AS → T → Prop} (hX : RT c w x X) (hY : RT c w y Y) (hk : opAppend E σ site t x y K) :
    ∃ σ1 v, K σ1 v ∧ ∃ V w', (Builtin.append_ #[t, t] ty #[X, Y]).run P w = .ok V w' ∧ ∃ c' F', H w0 L n σ1 a w' c' F' ∧ RT c' w' v V := by
  unfold opAppend at hk
  split at hk
  case h_2 => exact hk.elim
  rename_i e sz by_ he
  split at hk
  case h_2 => exact hk.elim
  rename_i zs hz
  split at hk
  case isFalse => exact hk.elim
  rename_i hzs
  obtain ⟨p2, src, hsrc, src', hk⟩ := hk
  obtain ⟨inf, hu, hi, rfl, rfl, hne⟩ := elI_some (Tab.el_ok hE he)
  obtain ⟨inf', z, hi', hzz, rfl, _⟩ := zrI_some (Tab.zr_ok hE hz)
  rw [hi] at hi'; cases hi'
  have hzsz : z.cells.size = inf.size := by simpa using hzs
  obtain ⟨hlens, A, cp, rfl, hA⟩ := opSrc_ok h (Sup.refl σ) hY hsrc
  have hcut : ∀ (need old : Nat), need ≤ maxLen → (need : Int) ≤ 9223372036854775807 := fun need old hm => by simp only [maxLen] at hm; omega
  split at hk
  · -- onto nil
    obtain ⟨rfl, hs, hm, hb, hk⟩ := hk
    obtain rfl := one_lit hX
    refine ⟨_, _, hk, ?_⟩
    by_cases h0 : src.length = 0
    · have hnil : src = [] := List.eq_nil_of_length_eq_zero h0
      subst hnil
      have hrun := run_append_nothing (P := P) (w := w) (ty := ty) (A := A) (cp := cp) hu hi (X := .slice none 0 0) (.inl rfl)
      have hH := h.addSite' (s := site) (k := .row p2 inf.size []) (i := .nil) (G := fun _ => False) hs (fun _ hb => hb.elim) (fun _ _ hb => hb.elim) (.inl ⟨by simp [Ctx.add], rfl, fun _ h => h⟩)
      exact ⟨_, _, hrun, _, _, hH, .locnil (by simp [Ctx.add]), rfl⟩
    · obtain ⟨b, o, rfl, news, hnl, hnc, hnr⟩ := hA (by omega)
      have hadd : ∀ (j : Nat) (v : Value), news[j]? = some v → w.cell? ((⟨b, o, none⟩ : Addr).add j) = some v := fun j v hj => by rw [Addr.add_lit]; exact hnc j v hj
      have hrun := run_append_nil (P := P) w t ty e inf z hu hi hzz ⟨b, o, none⟩ src.length cp news hnl hadd (by omega) (hcut _ 0 hm) (by omega)
      have hge := grownCap_ge w src.length 0 e
      have hle := grownCap_le_maxLen w src.length 0 e hm
      have hbelow : Bel w.heap.size w (w.drew.alloc (.cells (news.toArray ++ Builtin.zeroCells z.cells (grownCap w src.length 0 e - src.length)) e)) := ((Bel.refl _ _).drew).alloc (by simp) _
      obtain ⟨c', F', hH, hat⟩ := h.newRow hbelow hs (p := p2) (sz := inf.size) (cap := grownCap w src.length 0 e) (es := src.map fun e => e.map AV.bor) (b := w.heap.size) (Nat.le_refl _) (heap_alloc_new w.drew _) (fun i _ => by simp) (by simpa using hge) hle
        (by
          simp only [Array.size_append, List.size_toArray, size_zeroCells, hzsz, hnl, ← Nat.add_mul]
          congr 1; omega) (fun e' he' => by obtain ⟨e'', h1, rfl⟩ := List.mem_map.1 he'; simpa using hlens e'' h1) (fun i j x v hx hv => by
          obtain ⟨y, hy, rfl⟩ := elt_map hx
          obtain ⟨hi1, hj1⟩ := elt_lt hlens hy
          have hlt : i * inf.size + j < news.length := by rw [hnl]; exact fit_lt hi1 hj1 (Nat.le_refl _)
          rw [Array.getElem?_append_left (by simpa using hlt)] at hv
          obtain ⟨r1, r2, r3⟩ := hnr i j y v hy (by simpa using hv)
          exact ⟨⟨r1.bor, r2⟩, fun hp => bor_data (r3 hp), bor_cell⟩)
      refine ⟨_, _, hrun, c', F', hH, ?_, rfl⟩
      have := R.loc (c := c') (w := w.drew.alloc (.cells (news.toArray ++ Builtin.zeroCells z.cells (grownCap w src.length 0 e - src.length)) e)) (off := 0) (len := src.length) (A := some ⟨w.heap.size, 0, none⟩) hat (by omega) (fun _ => by simp)
      simpa using this
  · -- onto a row of the call's own
    rename_i s off len
    split at hk
    case h_2 => exact hk.elim
    rename_i rz es hs
    split at hk
    case isFalse => exact hk.elim
    rename_i hrz
    subst hrz
    obtain ⟨rfl, rfl, hlen, hnr0, hm, hb, hk⟩ := hk
    obtain ⟨hX, _⟩ := hX
    refine ⟨_, _, hk, ?_⟩
    -- the place is given up, and made anew
    have hd := h.drop s
    have hnone : (σ.drop s).mem s = none := by simp [AS.drop]
    have hext : ∀ (si : SI) (J : Nat → Prop), (∀ s' i', (c.del s).at_ s' = some i' → ((c.del s).add s si J).at_ s' = some i') ∧ ∀ b, (c.del s).I b → ((c.del s).add s si J).I b := fun si J => Ctx.add_ext (by simp [Ctx.del]) si J
    -- the new elements, in the new context
    have hnew : ∀ (news : List Value) (si : SI) (J : Nat → Prop) (w' : World), (∀ b, c.I b → w'.heap[b]? = w.heap[b]?) → (∀ (i j : Nat) (x : AV) (v : Value), elt src i j = some x → news[i * inf.size + j]? = some v → R c w x v ∧ v.oneCell' = true ∧ (p2 = true → x.isCell = true)) →
        ∀ (i j : Nat) (x : AV) (v : Value), elt (laid p2 s src) i j = some x → news[i * inf.size + j]? = some v → v.oneCell' = true ∧ R ((c.del s).add s si J) w' x v ∧ (p2 = true → x.isData = true) ∧ (x.isCell = true → x.isData = true) := by
      intro news si J w' hI hr i j x v hx hv
      obtain ⟨e1, e2⟩ := hext si J
      unfold laid at hx
      split at hx
      · rename_i hp
        obtain ⟨y, hy, rfl⟩ := elt_map hx
        obtain ⟨r1, r2, r3⟩ := hr i j y v hy hv
        have hcell := r3 hp
        exact ⟨r2, (R.free (c := c) (fun b hb => e2 b hb) hI r1 (by cases y <;> simp_all [AV.isCell, AV.isFree])).bor, fun _ => bor_data hcell, bor_cell⟩
      · rename_i hp
        obtain ⟨y, hy, rfl⟩ := elt_map hx
        obtain ⟨r1, r2, r3⟩ := hr i j y v hy hv
        exact ⟨r2, R.mono (c := c.del s) e1 e2 hI r1.bor.kill, fun h => absurd h hp, kill_cell⟩
    -- the old row
    rcases h.mem s _ hs with ⟨hat, rfl, hF0⟩ | ⟨b, cap, hat, hB⟩
    · have hX0 : X = .slice none 0 0 := by
        cases hX with
        | locnil => rfl
        | loc h1 => rw [hat] at h1; cases h1
      subst hX0
      by_cases h0 : src.length = 0
      · have hnil : src = [] := List.eq_nil_of_length_eq_zero h0
        subst hnil
        have hrun := run_append_nothing (P := P) (w := w) (ty := ty) (A := A) (cp := cp) hu hi (X := .slice none 0 0) (.inl rfl)
        have hH := hd.addSite' (s := s) (k := .row p2 inf.size ([] ++ laid p2 s [])) (i := .nil) (G := fun _ => False) hnone (fun _ hb => hb.elim) (fun _ _ hb => hb.elim) (.inl ⟨by simp [Ctx.add], by simp [laid], fun _ h => h⟩)
        exact ⟨_, _, hrun, _, _, hH, .locnil (by simp [Ctx.add]), rfl⟩
      · obtain ⟨b, o, rfl, news, hnl, hnc, hnr⟩ := hA (by omega)
        have hadd : ∀ (j : Nat) (v : Value), news[j]? = some v → w.cell? ((⟨b, o, none⟩ : Addr).add j) = some v := fun j v hj => by rw [Addr.add_lit]; exact hnc j v hj
        simp only [List.length_nil, Nat.zero_add] at hm hb
        have hrun := run_append_nil (P := P) w t ty e inf z hu hi hzz ⟨b, o, none⟩ src.length cp news hnl hadd (by omega) (hcut _ 0 hm) (by omega)
        have hge := grownCap_ge w src.length 0 e
        have hle := grownCap_le_maxLen w src.length 0 e hm
        have hbelow : Bel w.heap.size w (w.drew.alloc (.cells (news.toArray ++ Builtin.zeroCells z.cells (grownCap w src.length 0 e - src.length)) e)) := ((Bel.refl _ _).drew).alloc (by simp) _
        have hsize : (news.toArray ++ Builtin.zeroCells z.cells (grownCap w src.length 0 e - src.length)).size = grownCap w src.length 0 e * inf.size := by
          simp only [Array.size_append, List.size_toArray, size_zeroCells, hzsz, hnl, ← Nat.add_mul]
          congr 1; omega
        have hH := (hd.world hbelow).addSite' (s := s) (k := .row p2 inf.size ([] ++ laid p2 s src)) (i := .row w.heap.size (grownCap w src.length 0 e) inf.size) (G := fun k => k = w.heap.size ∨ ∃ i j : Nat, (fun _ _ _ => False : Nat → Nat → Nat → Prop) i j k) hnone
          (fun k hk => by
            have hk' : k = w.heap.size := by simpa using hk
            subst hk'
            exact ⟨.inl h.keeps.size, by simp, fun s' hs' => by have := (h.new s' _ hs'.2).2; omega⟩) (fun k hk _ hI => by
            have hk' : k = w.heap.size := hk
            subst hk'
            have := h.imm _ hI; omega)
          (.inr ⟨w.heap.size, grownCap w src.length 0 e, by simp [Ctx.add], RowB.build (C := news.toArray ++ Builtin.zeroCells z.cells (grownCap w src.length 0 e - src.length)) (e := e) (fz := (0, 0)) (heap_alloc_new w.drew _) (fun i _ => by simp) (by rw [laid_len]; simpa using hge) hle hsize (by simp) (laid_lens hlens) (by simp [elt])
            (fun i j x v hx hv => by
              obtain ⟨hi1, hj1⟩ := elt_lt (laid_lens hlens) hx
              rw [laid_len] at hi1
              have hlt : i * inf.size + j < news.length := by rw [hnl]; exact fit_lt hi1 hj1 (Nat.le_refl _)
              simp only [List.length_nil, Nat.zero_add] at hv
              rw [Array.getElem?_append_left (by simpa using hlt)] at hv
              exact hnew news _ _ _ (fun q hq => hbelow.block q (h.imm q hq)) hnr i j x v hx (by simpa using hv)) (fun _ _ h => h) (fun _ _ _ _ _ h => h.elim) (fun _ _ _ h => h.elim)⟩)
        refine ⟨_, _, hrun, _, _, hH, ?_, rfl⟩
        have := R.loc (c := (c.del s).add s (.row w.heap.size (grownCap w src.length 0 e) inf.size) (fun b => (fun k => k = w.heap.size ∨ ∃ i j : Nat, (fun _ _ _ => False : Nat → Nat → Nat → Prop) i j k) b ∧ ¬ (SI.row w.heap.size (grownCap w src.length 0 e) inf.size).isTop b)) (w := w.drew.alloc (.cells (news.toArray ++ Builtin.zeroCells z.cells (grownCap w src.length 0 e - src.length)) e)) (s := s) (off := 0) (len := src.length) (b := w.heap.size) (cap := grownCap w src.length 0 e) (sz := inf.size) (A := some ⟨w.heap.size, 0, none⟩) (by simp [Ctx.add]) (by omega) (fun _ => by simp)
        simpa using this
    · obtain ⟨C, el, fz, G, a1, a2, a3, a4, a5, a6, a7, a8, a9, a10, a11, a12⟩ := hB
      have a8' : ∀ (i j : Nat) (x : AV) (v : Value), elt es i j = some x → C[i * inf.size + j]? = some v → RO c w (G i j) x v := fun i j x v hx hv => (a8 i j x v hx hv).resolve_right (by simp)
      have hFb : F s b := (a12 b).2 (.inl rfl)
      have hGF : ∀ i j k, G i j k → F s k ∧ c.I k := fun i j k hk => by
        have hFk : F s k := (a12 k).2 (.inr ⟨i, j, hk⟩)
        refine ⟨hFk, (h.inn s k hFk).2 ?_⟩
        rintro (ht | ⟨_, _, ht⟩)
        · rw [hat] at ht; cases ht
        · rw [hat] at ht; cases ht; exact a9 i j hk
      have hbI : ¬ c.I b := (h.top_not_I (.inr ⟨_, _, hat⟩)).2
      have hbF : ∀ s', s' ≠ s → ¬ F s' b := fun s' hne hb' => hne (h.disj _ _ _ hb' hFb)
      obtain ⟨A0, rfl, hA0⟩ : ∃ A0, X = .slice A0 es.length cap ∧ (0 < cap → A0 = some ⟨b, 0, none⟩) := by
        subst hlen
        generalize hq : es.length = q at hX
        cases hX with
        | locnil h1 => rw [hat] at h1; cases h1
        | @loc _ _ _ b' cap' sz' A h1 hle hA =>
          rw [hat] at h1; cases h1
          exact ⟨A, rfl, fun hc0 => by simpa using hA hc0⟩
      -- the place made anew: in block b', with cells C'
      have fin : ∀ (w' : World) (b' cap' : Nat) (C' : Array Value) (el' : TypeId) (fz' : Nat × Nat) (news : List Value) (A' : Option Addr), H w0 L n (σ.drop s) a w' (c.del s) (fun s' b => s' ≠ s ∧ F s' b) → w'.heap[b']? = some (.cells C' el' fz') → Unfz inf.size C' fz' → es.length + src.length ≤ cap' → cap' ≤ maxLen → C'.size = cap' * inf.size →
          (∀ q, c.I q → w'.heap[q]? = w.heap[q]?) → (b' = b ∨ b' = w.heap.size) → b' < w'.heap.size → w.heap.size ≤ w'.heap.size →
          (∀ k, k < es.length * inf.size → C'[k]? = C[k]?) → (∀ k, k < news.length → C'[es.length * inf.size + k]? = news[k]?) → news.length = src.length * inf.size →
          (∀ (i j : Nat) (x : AV) (v : Value), elt src i j = some x → news[i * inf.size + j]? = some v → R c w x v ∧ v.oneCell' = true ∧ (p2 = true → x.isCell = true)) →
          (0 < cap' → A' = some ⟨b', 0, none⟩) →
          ∃ c' F', H w0 L n ((σ.drop s).add s (.row p2 inf.size (es ++ laid p2 s src))) a w' c' F' ∧ RT c' w' (.one (.loc s 0 (es.length + src.length))) (.slice A' (es.length + src.length) cap') := by
        intro w' b' cap' C' el' fz' news A' hH0 hC' hfz' hfit' hm' hs' hI hb' hlt' hgr hold hnews hnl hnr hA'
        have hb'I : ¬ c.I b' := fun hI' => by
          rcases hb' with rfl | rfl
          · exact hbI hI'
          · have := h.imm _ hI'; omega
        have hGne : ∀ i j, ¬ G i j b' := fun i j hg => hb'I (hGF i j b' hg).2
        have hH := hH0.addSite' (s := s) (k := .row p2 inf.size (es ++ laid p2 s src)) (i := .row b' cap' inf.size) (G := fun k => k = b' ∨ ∃ i j, G i j k) hnone
          (fun k hk => by
            rcases hk with rfl | ⟨i, j, hk⟩
            · refine ⟨?_, hlt', fun s' hs' => ?_⟩
              · rcases hb' with rfl | rfl
                · exact (h.new s _ hFb).1
                · exact .inl h.keeps.size
              · rcases hb' with rfl | rfl
                · exact hbF s' hs'.1 hs'.2
                · have := (h.new s' _ hs'.2).2; omega
            · obtain ⟨h1, h2⟩ := hGF i j k hk
              exact ⟨(h.new s k h1).1, Nat.lt_of_lt_of_le (h.new s k h1).2 hgr, fun s' hs' => hs'.1 (h.disj _ _ _ hs'.2 h1)⟩)
          (fun k hk _ hI' => by
            have hk' : k = b' := hk
            subst hk'
            exact hb'I hI')
          (.inr ⟨b', cap', by simp [Ctx.add], RowB.build hC' hfz' (by rw [laid_len]; exact hfit') hm' hs' a6 (laid_lens hlens)
            (fun i j x v hx hv => by
              obtain ⟨hi1, hj1⟩ := elt_lt a6 hx
              rw [hold _ (fit_lt hi1 hj1 (Nat.le_refl _))] at hv
              have h8 := a8' i j x v hx hv
              refine ⟨a7 i j x v hx hv, ?_⟩
              refine RO.ctx (c := c) (fun q hq => (hext _ _).2 q hq) (h8.mono (fun _ _ h => h) (fun _ h => h) hI fun q hq => hI q (hGF i j q hq).2))
            (fun i j x v hx hv => by
              obtain ⟨hi1, hj1⟩ := elt_lt (laid_lens hlens) hx
              rw [laid_len] at hi1
              have hlt : i * inf.size + j < news.length := by rw [hnl]; exact fit_lt hi1 hj1 (Nat.le_refl _)
              rw [Nat.add_mul, Nat.add_assoc, hnews _ hlt] at hv
              exact hnew news _ _ _ hI hnr i j x v hx hv) hGne a10 a11⟩)
        refine ⟨_, _, hH, ?_, rfl⟩
        have := R.loc (c := (c.del s).add s (.row b' cap' inf.size) (fun k => (fun k => k = b' ∨ ∃ i j, G i j k) k ∧ ¬ (SI.row b' cap' inf.size).isTop k)) (w := w') (s := s) (off := 0) (len := es.length + src.length) (b := b') (cap := cap') (sz := inf.size) (A := A') (by simp [Ctx.add]) (by omega) (fun h0 => by simpa using hA' h0)
        simpa using this
      by_cases h0 : src.length = 0
      · have hnil : src = [] := List.eq_nil_of_length_eq_zero h0
        subst hnil
        have hX1 : (Value.slice A0 es.length cap = .slice none 0 0) ∨ ∃ g m cap', Value.slice A0 es.length cap = .slice (some g) m cap' ∧ m ≤ cap' := by
          cases A0 with
          | none =>
            left
            have hc0 : cap = 0 := by
              rcases Nat.eq_zero_or_pos cap with e | e
              · exact e
              · exact absurd (hA0 e) (by simp)
            subst hc0
            have hes : es = [] := List.eq_nil_of_length_eq_zero (by omega)
            subst hes; rfl
          | some g => exact .inr ⟨g, _, _, rfl, a3⟩
        have hrun := run_append_nothing (P := P) (w := w) (ty := ty) (A := A) (cp := cp) hu hi hX1
        obtain ⟨c', F', h1, h2⟩ := fin w b cap C el fz [] A0 hd a1 a2 (by simpa using a3) a4 a5 (fun _ _ => rfl) (.inl rfl) (h.new s b hFb).2 (Nat.le_refl _) (fun _ _ => rfl) (by simp) (by simp) (by simp [elt]) hA0
        exact ⟨_, _, hrun, c', F', h1, by simpa using h2⟩
      · obtain ⟨bs, o, rfl, news, hnl, hnc, hnr⟩ := hA (by omega)
        have hadd : ∀ (j : Nat) (v : Value), news[j]? = some v → w.cell? ((⟨bs, o, none⟩ : Addr).add j) = some v := fun j v hj => by rw [Addr.add_lit]; exact hnc j v hj
        have hones : ∀ u ∈ news, u.oneCell' = true := fun u hu => by
          obtain ⟨k, hk⟩ := List.getElem?_of_mem hu
          have hk1 := (List.getElem?_eq_some_iff.1 hk).1
          rw [hnl] at hk1
          have hsz : 0 < inf.size := by omega
          have hi1 : k / inf.size < src.length := (Nat.div_lt_iff_lt_mul hsz).2 hk1
          have hj1 : k % inf.size < (src[k / inf.size]).length := by rw [hlens _ (List.getElem_mem hi1)]; exact Nat.mod_lt _ hsz
          have hdm : k / inf.size * inf.size + k % inf.size = k := by have := Nat.div_add_mod k inf.size; rw [Nat.mul_comm] at this; exact this
          exact (hnr (k / inf.size) (k % inf.size) (src[k / inf.size][k % inf.size]) u (by simp only [elt, List.getElem?_eq_getElem hi1, Option.bind_some, List.getElem?_eq_getElem hj1]) (by rw [hdm]; exact hk)).2.1
        by_cases hroom : es.length + src.length ≤ cap
        · have hA1 := hA0 (by omega)
          subst hA1
          have hfit : es.length * inf.size + news.length ≤ C.size := by rw [hnl, a5, ← Nat.add_mul]; exact Nat.mul_le_mul_right _ hroom
          have hrun := run_append_place (P := P) (ty := ty) hu hi a1 a2 (sLen := es.length) (sCap := cap) (c := cp) hnl hadd hones hroom hfit
          have htl : (C.toList.take (es.length * inf.size)).length = es.length * inf.size := by rw [List.length_take, Array.length_toList (xs := C)]; omega
          have hoth : ∀ q, q ≠ b → (w.setRow b (C.toList.take (es.length * inf.size) ++ news ++ C.toList.drop (es.length * inf.size + news.length)).toArray).heap[q]? = w.heap[q]? := fun q hq => setRow_other w b q _ hq
          have hI : ∀ q, c.I q → (w.setRow b (C.toList.take (es.length * inf.size) ++ news ++ C.toList.drop (es.length * inf.size + news.length)).toArray).heap[q]? = w.heap[q]? := fun q hq => hoth q fun e => by subst e; exact hbI hq
          have hH0 := hd.touch (w' := w.setRow b (C.toList.take (es.length * inf.size) ++ news ++ C.toList.drop (es.length * inf.size + news.length)).toArray) rfl rfl rfl (by simp) hI (fun s' q hq => hoth q fun e => by subst e; exact hbF s' hq.1 hq.2) (fun q hq hl => hoth q fun e => by
            subst e
            rcases (h.new s _ hFb).1 with h1 | h1
            · omega
            · exact hl h1)
          obtain ⟨c', F', h1, h2⟩ := fin _ b cap _ el fz news (some ⟨b, 0, none⟩) hH0 (setRow_heap w b C _ el fz a1) (fun i hi' => a2 i (by simp at hi'; omega)) hroom a4 (by simp; omega) hI (.inl rfl) (by simpa using (h.new s b hFb).2) (by simp) (fun k hk => by
              simp only [List.append_assoc]
              rw [List.getElem?_toArray, List.getElem?_append_left (by omega), List.getElem?_take, if_pos hk]; simp) (fun k hk => by
              simp only [List.append_assoc]
              rw [List.getElem?_toArray, List.getElem?_append_right (by omega), htl, Nat.add_sub_cancel_left, List.getElem?_append_left hk]) hnl hnr (fun _ => rfl)
          exact ⟨_, _, hrun, c', F', h1, h2⟩
        · -- a new row
          have hge := grownCap_ge w (es.length + src.length) cap e
          have hle := grownCap_le_maxLen w (es.length + src.length) cap e hm
          have hfits : Builtin.nextslicecap (es.length + src.length) cap * inf.bytes ≤ 281474976710656 := growslice_fits (by omega) hb
          have hrun : (Builtin.append_ #[t, t] ty #[.slice A0 es.length cap, .slice (some ⟨bs, o, none⟩) src.length cp]).run P w = .ok (.slice (some ⟨w.heap.size, 0, none⟩) (es.length + src.length) (grownCap w (es.length + src.length) cap e))
              (w.drew.alloc (.cells ((C.toList.take (es.length * inf.size)).toArray ++ news.toArray ++ Builtin.zeroCells z.cells (grownCap w (es.length + src.length) cap e - (es.length + src.length))) e)) := by
            have htl : (C.toList.take (es.length * inf.size)).length = es.length * inf.size := by
              rw [List.length_take, Array.length_toList (xs := C), a5]
              have := Nat.mul_le_mul_right inf.size a3; omega
            cases A0 with
            | some g =>
              refine run_append_grow (P := P) w t ty e inf z hu hi hzz g es.length cap (C.toList.take (es.length * inf.size)) htl (fun j v hj => ?_) ⟨bs, o, none⟩ src.length cp news hnl hadd (by omega) (by have := hcut _ 0 hm; simpa using this) hfits
              have hj1 := (List.getElem?_eq_some_iff.1 hj).1
              rw [htl] at hj1
              have hc0 : 0 < cap := by
                rcases Nat.eq_zero_or_pos cap with e0 | e0
                · subst e0; have : es.length = 0 := by omega
                  rw [this] at hj1; simp at hj1
                · exact e0
              cases hA0 hc0
              rw [Addr.add_lit, Nat.zero_add]
              simp only [World.cell?, a1, Option.isSome_none, Bool.false_eq_true, if_false]
              rw [List.getElem?_take, if_pos hj1] at hj
              simpa using hj
            | none =>
              have hc0 : cap = 0 := by
                rcases Nat.eq_zero_or_pos cap with e0 | e0
                · exact e0
                · exact absurd (hA0 e0) (by simp)
              subst hc0
              have hes : es = [] := List.eq_nil_of_length_eq_zero (by omega)
              subst hes
              have := run_append_nil (P := P) w t ty e inf z hu hi hzz ⟨bs, o, none⟩ src.length cp news hnl hadd (by omega) (hcut _ 0 (by simpa using hm)) (by simp at hb; omega)
              simpa using this
          have hbelow : Bel w.heap.size w (w.drew.alloc (.cells ((C.toList.take (es.length * inf.size)).toArray ++ news.toArray ++ Builtin.zeroCells z.cells (grownCap w (es.length + src.length) cap e - (es.length + src.length))) e)) := ((Bel.refl _ _).drew).alloc (by simp) _
          have htl : (C.toList.take (es.length * inf.size)).toArray.size = es.length * inf.size := by
            have := Nat.mul_le_mul_right inf.size a3
            simp; omega
          obtain ⟨c', F', h1, h2⟩ := fin _ w.heap.size (grownCap w (es.length + src.length) cap e) _ e (0, 0) news (some ⟨w.heap.size, 0, none⟩) (hd.world hbelow) (heap_alloc_new w.drew _) (fun i _ => by simp) hge hle
            (by
              simp only [Array.size_append, htl, List.size_toArray, size_zeroCells, hzsz, hnl, ← Nat.add_mul]
              congr 1; omega) (fun q hq => hbelow.block q (h.imm q hq)) (.inr rfl) (by simp) (by simp)
            (fun k hk => by
              rw [Array.append_assoc, Array.getElem?_append_left (by omega)]
              simp [hk]) (fun k hk => by
              rw [Array.append_assoc, Array.getElem?_append_right (by omega), htl, Nat.add_sub_cancel_left, Array.getElem?_append_left (by simpa using hk)]
              simp) hnl hnr (fun _ => rfl)
          exact ⟨_, _, hrun, c', F', h1, h2⟩
  · exact hk.elim
end
end Go.Proofs.Ytlijeincckbdaaa
namespace Go.Proofs.Ytlijeincckbdaaa
open Go.RowKit
set_option linter.unusedSimpArgs false
set_option linter.unusedVariables false

/-- One abstract state says no more than another. -/
def Weak (σ σ' : AS) : Prop := ∀ (w0 : World) (L : Nat → Prop) (n : Nat) (a : Act) (w : World), Holds w0 L n σ a w → Holds w0 L n σ' a w
theorem Weak.refl (σ : AS) : Weak σ σ := fun _ _ _ _ _ h => h
theorem Weak.trans {a b c : AS} (h : Weak a b) (k : Weak b c) : Weak a c := fun _ _ _ _ _ x => k _ _ _ _ _ (h _ _ _ _ _ x)

/-- A state, laid out. -/
def lkT : List (Nat × T) → Nat → T
  | [], _ => .dead
  | (k, v) :: l, t => if t = k then v else lkT l t
def lkM : List (Nat × Blk) → Nat → Option Blk
  | [], _ => none
  | (k, v) :: l, s => if s = k then some v else lkM l s
def AS.of (tl : List (Nat × T)) (ml : List (Nat × Blk)) : AS := ⟨lkT tl, lkM ml⟩

/-- A row at its place, of plain data. -/
def RowAt (w : World) (i : SI) (sz : Nat) (es : List (List AV)) (F : Nat → Prop) : Prop :=
  (i = .nil ∧ es = [] ∧ ∀ k, ¬ F k) ∨ ∃ b cap, i = .row b cap sz ∧ RowB (c0 fun _ => False) w true b cap sz es F

def nbRow (es : List (List AV)) : Bool := es.all fun e => e.all (AV.nb 5)
def nbRows (bs : List (Nat × List (List AV))) : Bool := bs.all fun b => nbRow b.2

/-- Words on a row of plain data hold in every context. -/
theorem RowB.nb {c c' : Ctx} {w : World} {b cap sz : Nat} {es : List (List AV)} {F : Nat → Prop} (h : RowB c w true b cap sz es F) (hn : nbRow es = true) : RowB c' w true b cap sz es F := by
  obtain ⟨C, e, fz, G, a1, a2, a3, a4, a5, a6, a7, a8, a9, a10, a11, a12⟩ := h
  refine ⟨C, e, fz, G, a1, a2, a3, a4, a5, a6, a7, fun i j x v hx hv => .inl (((a8 i j x v hx hv).resolve_right (by simp)).nb 5 ?_), a9, a10, a11, a12⟩
  simp only [nbRow, List.all_eq_true] at hn
  unfold elt at hx
  cases he : es[i]? with
  | none => simp [he] at hx
  | some e => simp [he] at hx; exact hn e (List.mem_of_getElem? he) x (List.mem_of_getElem? hx)

def cAt (at_ : Nat → SI) (n : Nat) : Ctx := ⟨fun i => if i < n then some (at_ i) else none, fun _ => False⟩

/-- THE CONTRACT of a function that writes into the rows that it is lent: row i is named `.loc i 0 _` in the arguments; from bs they turn to bs'. -/
def MutF (P : Program) (f : FuncId) (args : List T) (bs bs' : List (Nat × List (List AV))) (r : Value) : Prop :=
  Callable P f ∧ nbRows bs = true ∧ nbRows bs' = true ∧ bs'.length = bs.length ∧
  ∀ (w : World) (at_ : Nat → SI) (F : Nat → Nat → Prop) (vs : Array Value), RTL (cAt at_ bs.length) w args vs.toList →
    (∀ i sz es, bs[i]? = some (sz, es) → RowAt w (at_ i) sz es (F i)) → (∀ i j k, F i k → F j k → i = j) → (∀ i k, F i k → i < bs.length ∧ k < w.heap.size) →
    Calls P f vs w fun e w' => ∃ F' : Nat → Nat → Prop, e = .returned r ∧ (∀ i sz es, bs'[i]? = some (sz, es) → RowAt w' (at_ i) sz es (F' i)) ∧
      (∀ i j k, F' i k → F' j k → i = j) ∧ (∀ i k, F' i k → i < bs.length ∧ ((∃ j, F j k) ∨ w.heap.size ≤ k) ∧ k < w'.heap.size) ∧ Keeps (fun k => ∃ i, F i k) w w'

/-- It is read alike whatever data are written. -/
def AV.safe : AV → Bool
  | .lit _ | .ptr _ _ | .eptr _ _ _ | .loc _ _ _ | .dead => true
  | _ => false
def T.safe : T → Bool
  | .one x => x.safe
  | .agg xs => xs.all AV.safe
  | .tup ts => ts.all fun t => t.2.all AV.safe
  | .dead => true
def Blk.safe : Blk → Bool
  | .var xs => xs.all AV.safe
  | .row _ _ es => es.all fun e => e.all fun x => x.nb 5 || x.safe
  | _ => true

theorem R.safe {c c' : Ctx} {w w' : World} (h1 : c'.at_ = c.at_) {x : AV} {v : Value} (h : R c w x v) (hs : x.safe = true) : R c' w' x v := by
  cases h with
  | dead v => exact .dead v
  | lit v => exact .lit v
  | ptr h => exact .ptr (by rw [h1]; exact h)
  | eptr h => exact .eptr (by rw [h1]; exact h)
  | loc h a b => exact .loc (by rw [h1]; exact h) a b
  | locnil h => exact .locnil (by rw [h1]; exact h)
  | row => cases hs
  | bptr => cases hs
  | fn => cases hs
  | nn => cases hs
/-- Words on a row without borrowed data hold in every context that has the same places. -/
theorem RowB.safe {c c' : Ctx} {w w' : World} (h1 : c'.at_ = c.at_) {p : Bool} {b cap sz : Nat} {es : List (List AV)} {F : Nat → Prop} (h : RowB c w p b cap sz es F) (hs : (es.all fun e => e.all fun x => x.nb 5 || x.safe) = true)
    (hF : ∀ k, F k → w'.heap[k]? = w.heap[k]?) : RowB c' w' p b cap sz es F := by
  obtain ⟨C, e, fz, G, a1, a2, a3, a4, a5, a6, a7, a8, a9, a10, a11, a12⟩ := h
  refine ⟨C, e, fz, G, (hF b ((a12 b).2 (.inl rfl))).trans a1, a2, a3, a4, a5, a6, a7, fun i j x v hx hv => ?_, a9, a10, a11, a12⟩
  have hxs : (x.nb 5 || x.safe) = true := by
    simp only [List.all_eq_true] at hs
    unfold elt at hx
    cases he : es[i]? with
    | none => simp [he] at hx
    | some e => simp [he] at hx; exact hs e (List.mem_of_getElem? he) x (List.mem_of_getElem? hx)
  rcases a8 i j x v hx hv with h2 | ⟨h2, h3, h4, h5⟩
  · have hn : x.nb 5 = true := by
      rcases Bool.or_eq_true_iff.1 hxs with h6 | h6
      · exact h6
      · have := h2.isCell
        cases x <;> first | rfl | (cases h6; done) | (cases this; done)
    have h7 : RO (c0 fun _ => False) w (G i j) x v := h2.nb 5 hn
    exact .inl ((h7.mono (c' := c0 fun _ => False) (w' := w') (fun _ _ h => h) (fun _ h => h) (fun _ h => h.elim) fun k hk => hF k ((a12 k).2 (.inr ⟨i, j, hk⟩))).nb 5 hn)
  · refine .inr ⟨h2, h3, h4.safe h1 ?_, h5⟩
    rcases Bool.or_eq_true_iff.1 hxs with h6 | h6
    · cases x <;> first | (cases h5; done) | (cases h6; done)
    · exact h6
theorem RL.safe {c c' : Ctx} {w w' : World} (h1 : c'.at_ = c.at_) : ∀ {xs : List AV} {vs : List Value}, RL c w xs vs → xs.all AV.safe = true → RL c' w' xs vs
  | [], [], _, _ => trivial
  | _ :: _, _ :: _, h, hs => by
    simp only [List.all_cons, Bool.and_eq_true] at hs
    exact ⟨⟨h.1.1.safe h1 hs.1, h.1.2⟩, RL.safe h1 h.2 hs.2⟩
theorem RTs.safe {c c' : Ctx} {w w' : World} (h1 : c'.at_ = c.at_) : ∀ {xs : List (Bool × List AV)} {vs : List Value}, RTs c w xs vs → (xs.all fun t => t.2.all AV.safe) = true → RTs c' w' xs vs
  | [], [], _, _ => trivial
  | (false, [x]) :: _, _ :: _, h, hs => by
    simp only [List.all_cons, Bool.and_eq_true, List.all_nil, Bool.and_true] at hs
    exact ⟨⟨h.1.1.safe h1 hs.1, h.1.2⟩, RTs.safe h1 h.2 hs.2⟩
  | (true, _) :: _, .agg _ :: _, h, hs => by
    simp only [List.all_cons, Bool.and_eq_true] at hs
    exact ⟨RL.safe h1 h.1 hs.1, RTs.safe h1 h.2 hs.2⟩
theorem RT.safe {c c' : Ctx} {w w' : World} (h1 : c'.at_ = c.at_) {t : T} {v : Value} (h : RT c w t v) (hs : t.safe = true) : RT c' w' t v := by
  cases t with
  | dead => trivial
  | one x => exact ⟨h.1.safe h1 hs, h.2⟩
  | agg xs => cases v <;> first | exact h.elim | exact RL.safe h1 h hs
  | tup ts => cases v <;> first | exact h.elim | exact RTs.safe h1 h hs

/-- The arguments in the callee's names of places (left) and in the caller's. -/
def RenA (ss : List Nat) : AV → AV → Prop
  | .lit v, .lit u => u = v
  | .loc i o l, .loc s o' l' => ss[i]? = some s ∧ o' = o ∧ l' = l
  | _, _ => False
def RenT (ss : List Nat) : T → T → Prop
  | .one x, .one y => RenA ss x y
  | .agg xs, .agg ys => all2 (RenA ss) xs ys
  | _, _ => False
def RenTs (ss : List Nat) : List T → List T → Prop
  | [], [] => True
  | x :: xs, y :: ys => RenT ss x y ∧ RenTs ss xs ys
  | _, _ => False

def ctxR (c : Ctx) (ss : List Nat) : Nat → SI := fun i => match ss[i]? with
  | some s => (c.at_ s).getD .nil
  | none => .nil

theorem RenA.ok {c : Ctx} {w : World} {ss : List Nat} {x y : AV} {v : Value} (hr : RenA ss x y) (h : R c w y v) : R (cAt (ctxR c ss) ss.length) w x v := by
  unfold RenA at hr
  split at hr
  · subst hr; cases h; exact .lit _
  · rename_i i o l s o' l'
    obtain ⟨hs, rfl, rfl⟩ := hr
    have hi := (List.getElem?_eq_some_iff.1 hs).1
    have hat : ∀ j, c.at_ s = some j → (cAt (ctxR c ss) ss.length).at_ i = some j := fun j hj => by
      simp only [cAt, ctxR, hs, hj, if_pos hi, Option.getD_some]
    cases h with
    | loc h1 a b => exact .loc (hat _ h1) a b
    | locnil h1 => exact .locnil (hat _ h1)
  · exact hr.elim
theorem RenL.ok {c : Ctx} {w : World} {ss : List Nat} : ∀ {xs ys : List AV} {vs : List Value}, all2 (RenA ss) xs ys → RL c w ys vs → RL (cAt (ctxR c ss) ss.length) w xs vs
  | [], [], [], _, _ => trivial
  | _ :: _, _ :: _, _ :: _, hr, h => ⟨⟨hr.1.ok h.1.1, h.1.2⟩, RenL.ok hr.2 h.2⟩
theorem RenT.ok {c : Ctx} {w : World} {ss : List Nat} {x y : T} {v : Value} (hr : RenT ss x y) (h : RT c w y v) : RT (cAt (ctxR c ss) ss.length) w x v := by
  unfold RenT at hr
  split at hr
  · exact ⟨hr.ok h.1, h.2⟩
  · cases v <;> first | exact h.elim | exact RenL.ok hr h
  · exact hr.elim
theorem RenTs.ok {c : Ctx} {w : World} {ss : List Nat} : ∀ {xs ys : List T} {vs : List Value}, RenTs ss xs ys → RTL c w ys vs → RTL (cAt (ctxR c ss) ss.length) w xs vs
  | [], [], [], _, _ => trivial
  | _ :: _, _ :: _, _ :: _, hr, h => ⟨hr.1.ok h.1, RenTs.ok hr.2 h.2⟩

/-- The places behind the call. -/
def updM : List Nat → List (Nat × List (List AV)) → Nat × Blk → Nat × Blk
  | s :: ss, b :: bs, p => if p.1 = s then (s, .row true b.1 b.2) else updM ss bs p
  | _, _, p => p

/-- The rows are there. -/
def hasRows (m : Nat → Option Blk) : List Nat → List (Nat × List (List AV)) → Prop
  | [], [] => True
  | s :: ss, b :: bs => m s = some (.row true b.1 b.2) ∧ hasRows m ss bs
  | _, _ => False
theorem hasRows_len {m : Nat → Option Blk} : ∀ {ss : List Nat} {bs : List (Nat × List (List AV))}, hasRows m ss bs → ss.length = bs.length
  | [], [], _ => rfl
  | _ :: _, _ :: _, h => by simp [hasRows_len h.2]
theorem hasRows_at {m : Nat → Option Blk} : ∀ {ss : List Nat} {bs : List (Nat × List (List AV))}, hasRows m ss bs → ∀ {i s : Nat} {b : Nat × List (List AV)}, ss[i]? = some s → bs[i]? = some b → m s = some (.row true b.1 b.2)
  | [], [], _, i, s, b, h, _ => by simp at h
  | _ :: _, _ :: _, h, 0, s, b, h1, h2 => by simp at h1 h2; subst h1 h2; exact h.1
  | _ :: _, _ :: _, h, i + 1, s, b, h1, h2 => hasRows_at h.2 (by simpa using h1) (by simpa using h2)

/-- What a call that writes asks for: the state as it is laid out ahead of it; the callee's words; the state behind it. -/
def opMark (P : Program) (f : FuncId) (args : List Operand) (σ : AS) (K : AS → T → Prop) : Prop :=
  ∃ tl ml, Weak σ (AS.of tl ml) ∧ ∃ us bs bs' r ss, MutF P f us bs bs' r ∧ RenTs ss us (args.map (AS.of tl ml).get) ∧ hasRows (lkM ml) ss bs ∧ ss.Nodup ∧
    (tl.all fun p => p.2.safe) = true ∧ (ml.all fun p => p.2.safe) = true ∧ r.oneCell' = true ∧ K (AS.of tl (ml.map (updM ss bs'))) (.one (.lit r))

theorem lkM_mem : ∀ {ml : List (Nat × Blk)} {s : Nat} {k : Blk}, lkM ml s = some k → (s, k) ∈ ml
  | [], s, k, h => by simp [lkM] at h
  | (s', k') :: ml, s, k, h => by
    simp only [lkM] at h
    split at h
    · rename_i e; subst e; cases h; simp
    · exact List.mem_cons_of_mem _ (lkM_mem h)
theorem lkT_safe : ∀ {tl : List (Nat × T)}, (tl.all fun p => p.2.safe) = true → ∀ t, (lkT tl t).safe = true
  | [], _, t => rfl
  | (k, v) :: l, h, t => by
    simp only [List.all_cons, Bool.and_eq_true] at h
    simp only [lkT]
    split
    · exact h.1
    · exact lkT_safe h.2 t
theorem updM_fst : ∀ (ss : List Nat) (bs : List (Nat × List (List AV))) (p : Nat × Blk), (updM ss bs p).1 = p.1
  | [], _, _ => rfl
  | _ :: _, [], _ => rfl
  | s :: ss, b :: bs, p => by
    simp only [updM]
    split
    · rename_i e; exact e.symm
    · exact updM_fst ss bs p
theorem updM_old : ∀ {ss : List Nat} {bs : List (Nat × List (List AV))} {p : Nat × Blk}, p.1 ∉ ss → updM ss bs p = p
  | [], _, _, _ => rfl
  | _ :: _, [], _, _ => rfl
  | s :: ss, b :: bs, p, h => by
    simp only [List.mem_cons, not_or] at h
    simp only [updM, if_neg h.1]
    exact updM_old h.2
theorem updM_new : ∀ {ss : List Nat} {bs : List (Nat × List (List AV))} {p : Nat × Blk} {i : Nat} {b : Nat × List (List AV)}, ss.Nodup → ss[i]? = some p.1 → bs[i]? = some b → updM ss bs p = (p.1, .row true b.1 b.2)
  | [], _, _, i, _, _, h, _ => by simp at h
  | _ :: _, [], _, i, _, _, _, h => by simp at h
  | s :: ss, b' :: bs, p, 0, b, hn, h1, h2 => by
    simp at h1 h2
    subst h1 h2
    simp [updM]
  | s :: ss, b' :: bs, p, i + 1, b, hn, h1, h2 => by
    simp only [List.nodup_cons] at hn
    simp at h1 h2
    have hne : p.1 ≠ s := fun e => hn.1 (by rw [← e]; exact List.mem_of_getElem? h1)
    simp only [updM, if_neg hne]
    exact updM_new hn.2 h1 h2
theorem lkM_upd {ss : List Nat} {bs : List (Nat × List (List AV))} : ∀ {ml : List (Nat × Blk)} {s : Nat}, lkM (ml.map (updM ss bs)) s = (lkM ml s).map fun k => (updM ss bs (s, k)).2
  | [], _ => rfl
  | (s', k') :: ml, s => by
    simp only [List.map_cons]
    have h1 := updM_fst ss bs (s', k')
    generalize hq : updM ss bs (s', k') = q at h1
    obtain ⟨q1, q2⟩ := q
    simp only at h1
    subst h1
    simp only [lkM]
    split
    · rename_i e; subst e; simp [hq]
    · exact lkM_upd

section
variable {P : Program} {w0 w : World} {L : Nat → Prop} {n : Nat} {σ : AS} {a : Act} {c : Ctx} {F : Nat → Nat → Prop}

/-- A contract that is a step of the caller's own state. -/
def CallOk (P : Program) (f : FuncId) (args : List Operand) (σ σ' : AS) (t : T) : Prop :=
  Callable P f ∧ ∀ (w0 : World) (L : Nat → Prop) (n : Nat) (a : Act) (w : World), Holds w0 L n σ a w →
    Calls P f (args.map a.eval).toArray w fun e w' => ∃ V c' F', e = .returned V ∧ H w0 L n σ' a w' c' F' ∧ RT c' w' t V
def opOwn (P : Program) (f : FuncId) (args : List Operand) (σ : AS) (K : AS → T → Prop) : Prop := ∃ σ' t, CallOk P f args σ σ' t ∧ K σ' t
theorem opOwn_ok (h0 : Holds w0 L n σ a w) {f : FuncId} {args : List Operand} {K : AS → T → Prop} (hk : opOwn P f args σ K) :
    ∃ σ' v, K σ' v ∧ Callable P f ∧ Calls P f (args.map a.eval).toArray w fun e w' => ∃ V c' F', e = .returned V ∧ H w0 L n σ' a w' c' F' ∧ RT c' w' v V := by
  obtain ⟨σ', t, ⟨hc, hf⟩, hk⟩ := hk
  exact ⟨σ', t, hk, hc, hf _ _ _ _ _ h0⟩

/-- A call whose outcome is one of many. -/
def CallR (P : Program) (f : FuncId) (args : List Operand) (σ : AS) (R : AS → T → Prop) : Prop :=
  Callable P f ∧ ∀ (w0 : World) (L : Nat → Prop) (n : Nat) (a : Act) (w : World), Holds w0 L n σ a w →
    Calls P f (args.map a.eval).toArray w fun e w' => ∃ σ' t V c' F', R σ' t ∧ e = .returned V ∧ H w0 L n σ' a w' c' F' ∧ RT c' w' t V
def opFam (P : Program) (f : FuncId) (args : List Operand) (σ : AS) (K : AS → T → Prop) : Prop := ∃ R, CallR P f args σ R ∧ ∀ σ' t, R σ' t → K σ' t
theorem BlkOk.rowAt {F : Nat → Prop} {s sz : Nat} {es : List (List AV)} (h : BlkOk c w F s (.row true sz es)) (hn : nbRow es = true) : ∃ i, c.at_ s = some i ∧ RowAt w i sz es F := by
  rcases h with ⟨h1, h2, h3⟩ | ⟨b, cap, h1, h2⟩
  · exact ⟨_, h1, .inl ⟨rfl, h2, h3⟩⟩
  · exact ⟨_, h1, .inr ⟨b, cap, rfl, h2.nb hn⟩⟩
theorem RowAt.blk {F : Nat → Prop} {s sz : Nat} {es : List (List AV)} {i : SI} (h : RowAt w i sz es F) (hn : nbRow es = true) (hi : c.at_ s = some i) : BlkOk c w F s (.row true sz es) := by
  rcases h with ⟨rfl, h2, h3⟩ | ⟨b, cap, rfl, h2⟩
  · exact .inl ⟨hi, h2, h3⟩
  · exact .inr ⟨b, cap, hi, h2.nb hn⟩

theorem nbRows_at {bs : List (Nat × List (List AV))} (h : nbRows bs = true) {i : Nat} {b : Nat × List (List AV)} (hb : bs[i]? = some b) : nbRow b.2 = true := by
  simp only [nbRows, List.all_eq_true] at h
  exact h b (List.mem_of_getElem? hb)

theorem opMark_ok (h0 : Holds w0 L n σ a w) {f : FuncId} {args : List Operand} {K : AS → T → Prop} (hk : opMark P f args σ K) :
    ∃ σ' v, K σ' v ∧ Callable P f ∧ Calls P f (args.map a.eval).toArray w fun e w' => ∃ V c' F', e = .returned V ∧ H w0 L n σ' a w' c' F' ∧ RT c' w' v V := by
  obtain ⟨tl, ml, hweak, us, bs, bs', r, ss, hf, hren, hrows, hnd, hst, hsm, hr, hk⟩ := hk
  obtain ⟨c, F, h⟩ := hweak _ _ _ _ _ h0
  refine ⟨_, _, hk, hf.1, ?_⟩
  obtain ⟨_, hnb, hnb', hbl, hcall⟩ := hf
  have hlen := hasRows_len hrows
  have hat : ∀ {i s : Nat} {b : Nat × List (List AV)}, ss[i]? = some s → bs[i]? = some b → ∃ j, c.at_ s = some j ∧ ctxR c ss i = j ∧ RowAt w j b.1 b.2 (F s) := fun {i s b} hs hb => by
    obtain ⟨j, h1, h2⟩ := (h.mem s _ (hasRows_at hrows hs hb)).rowAt (nbRows_at hnb hb)
    exact ⟨j, h1, by simp [ctxR, hs, h1], h2⟩
  have hargs : RTL c w (args.map (AS.of tl ml).get) (args.map a.eval) := by
    have : ∀ l : List Operand, RTL c w (l.map (AS.of tl ml).get) (l.map a.eval) := by
      intro l
      induction l with
      | nil => trivial
      | cons x l ih => exact ⟨h.get x, ih⟩
    exact this args
  have hFs : ∀ i k : Nat, (∃ s, ss[i]? = some s ∧ F s k) → i < bs.length ∧ k < w.heap.size := fun i k ⟨s, hs, hk⟩ => ⟨by rw [← hlen]; exact (List.getElem?_eq_some_iff.1 hs).1, (h.new s k hk).2⟩
  refine (hcall w (ctxR c ss) (fun i k => ∃ s, ss[i]? = some s ∧ F s k) (args.map a.eval).toArray (by rw [← hlen]; simpa using hren.ok hargs) (fun i sz es hb => ?_) (fun i j k ⟨s, hs, h1⟩ ⟨s', hs', h2⟩ => ?_) hFs).mono ?_
  · have hi : i < ss.length := by rw [hlen]; exact (List.getElem?_eq_some_iff.1 hb).1
    have hs : ss[i]? = some ss[i] := by simp [hi]
    obtain ⟨j, h1, h2, h3⟩ := hat hs hb
    rw [h2, show (fun k => ∃ s, ss[i]? = some s ∧ F s k) = F ss[i] from funext fun k => propext (by simp [hs])]
    exact h3
  · have := h.disj _ _ _ h1 h2
    subst this
    obtain ⟨hi, e1⟩ := List.getElem?_eq_some_iff.1 hs
    obtain ⟨hj, e2⟩ := List.getElem?_eq_some_iff.1 hs'
    exact (List.getElem_inj hnd).1 (e1.trans e2.symm)
  rintro e w' ⟨F', rfl, hB', hd', hF', hkeep⟩
  -- the new footprints and context
  let c2 : Ctx := ⟨c.at_, fun k => (c.I k ∧ ¬ ∃ i s : Nat, ss[i]? = some s ∧ F s k) ∨ ∃ i s : Nat, ss[i]? = some s ∧ F' i k ∧ ¬ c.top s k⟩
  let F2 : Nat → Nat → Prop := fun s k => (s ∉ ss ∧ F s k) ∨ ∃ i : Nat, ss[i]? = some s ∧ F' i k
  have hblk : ∀ k, k < w.heap.size → (∀ i s : Nat, ss[i]? = some s → ¬ F s k) → w'.heap[k]? = w.heap[k]? := fun k hk hn => hkeep.block k hk fun ⟨i, s, hs, hF⟩ => hn i s hs hF
  have hmemss : ∀ {s : Nat}, s ∈ ss → ∃ i : Nat, ss[i]? = some s := fun {s} hs => List.getElem?_of_mem hs
  have hother : ∀ s k, s ∉ ss → F s k → w'.heap[k]? = w.heap[k]? := fun s k hs hF => hblk k (h.new s k hF).2 fun i s' hs' hF' => by
    have := h.disj _ _ _ hF hF'
    subst this
    exact hs (List.mem_of_getElem? hs')
  have hF2o : ∀ s, s ∉ ss → F2 s = F s := fun s hs => funext fun k => propext ⟨fun h => h.elim (·.2) fun ⟨i, hi, _⟩ => absurd (List.mem_of_getElem? hi) hs, fun h => .inl ⟨hs, h⟩⟩
  have hidx : ∀ {i j s : Nat}, ss[i]? = some s → ss[j]? = some s → i = j := fun {i j s} h1 h2 => by
    obtain ⟨hi, e1⟩ := List.getElem?_eq_some_iff.1 h1
    obtain ⟨hj, e2⟩ := List.getElem?_eq_some_iff.1 h2
    exact (List.getElem_inj hnd).1 (e1.trans e2.symm)
  have hF2n : ∀ {i s : Nat}, ss[i]? = some s → F2 s = F' i := fun {i s} hs => funext fun k => propext ⟨fun h => h.elim (fun h => absurd (List.mem_of_getElem? hs) h.1) fun ⟨j, hj, h⟩ => by rw [hidx hs hj]; exact h, fun h => .inr ⟨i, hs, h⟩⟩
  have hF'k : ∀ i k, F' i k → (∃ j s : Nat, ss[j]? = some s ∧ F s k) ∨ w.heap.size ≤ k := fun i k hk => (hF' i k hk).2.1.imp (fun ⟨j, s, hs, hF⟩ => ⟨j, s, hs, hF⟩) id
  have hcross : ∀ s i k, s ∉ ss → F s k → F' i k → False := fun s i k hs hF hk => by
    rcases hF'k i k hk with ⟨j, s', hs', hF'⟩ | hge
    · have := h.disj _ _ _ hF hF'
      subst this
      exact hs (List.mem_of_getElem? hs')
    · have := (h.new s k hF).2; omega
  have hH : H w0 L n (AS.of tl (ml.map (updM ss bs'))) a w' c2 F2 := by
    refine ⟨⟨hkeep.os.trans h.keeps.os, hkeep.tape.trans h.keeps.tape, hkeep.output.trans h.keeps.output, Nat.le_trans h.keeps.size hkeep.size, fun k hk hl => ?_, Nat.le_trans h.keeps.dr hkeep.dr⟩, h.size, h.defers, fun t => ?_, fun s k hk => ?_, fun s hs => ?_, fun s s' k h1 h2 => ?_, fun s k hk => ?_, fun k hk => ?_, fun s k hk => ?_, fun s v x hk => ?_⟩
    · rw [hblk k (Nat.lt_of_lt_of_le hk h.keeps.size) fun i s hs hF => by rcases (h.new s k hF).1 with h1 | h1; omega; exact hl h1]
      exact h.keeps.block k hk hl
    · exact RT.safe (c := c) (c' := c2) (w := w) (w' := w') rfl (h.tm t) (lkT_safe hst t)
    · simp only [AS.of, lkM_upd] at hk
      cases hq : lkM ml s with
      | none => simp [hq] at hk
      | some q =>
        simp only [hq, Option.map_some, Option.some.injEq] at hk
        have hB := h.mem s q hq
        by_cases hs : s ∈ ss
        · obtain ⟨i, hi⟩ := hmemss hs
          have hil : i < bs.length := by rw [← hlen]; exact (List.getElem?_eq_some_iff.1 hi).1
          have hb : bs[i]? = some bs[i] := by simp [hil]
          have hb' : bs'[i]? = some bs'[i] := by simp [hbl, hil]
          rw [updM_new (p := (s, q)) hnd hi hb'] at hk
          subst hk
          obtain ⟨j, h1, h2, h3⟩ := hat hi hb
          rw [hF2n hi]
          have := hB' i _ _ hb'
          rw [h2] at this
          exact this.blk (nbRows_at hnb' hb') h1
        · rw [updM_old (p := (s, q)) hs] at hk
          subst hk
          rw [hF2o s hs]
          have hsafe : q.safe = true := List.all_eq_true.1 hsm _ (lkM_mem hq)
          cases q with
          | var xs =>
            obtain ⟨b, C, e, fz, a1, a2, a3, a4, a5⟩ := hB
            exact ⟨b, C, e, fz, a1, (hother s b hs ((a5 b).2 rfl)).trans a2, a3, RL.safe (c := c) (c' := c2) (w := w) (w' := w') rfl a4 hsafe, a5⟩
          | row p sz es =>
            rcases hB with ⟨h1, h2, h3⟩ | ⟨b, cap, h1, h2⟩
            · exact .inl ⟨h1, h2, h3⟩
            · exact .inr ⟨b, cap, h1, RowB.safe (c := c) (c' := c2) rfl h2 hsafe fun k hk => hother s k hs hk⟩
          | par v x =>
            exact hB
          | pin s' i => exact hB
          | mapb b es =>
            obtain ⟨a1, ⟨ents, ck, a2, a3⟩, a5⟩ := hB
            exact ⟨a1, ⟨ents, ck, (hother s b hs ((a5 b).2 rfl)).trans a2, a3⟩, a5⟩
    · simp only [AS.of, lkM_upd, Option.map_eq_none_iff] at hs
      have hd := h.dom s hs
      refine ⟨hd.1, fun k hk => ?_⟩
      rcases hk with ⟨_, hk⟩ | ⟨i, hi, _⟩
      · exact hd.2 k hk
      · have hil : i < bs.length := by rw [← hlen]; exact (List.getElem?_eq_some_iff.1 hi).1
        have := hasRows_at hrows hi (b := bs[i]) (by simp [hil])
        rw [hs] at this; cases this
    · rcases h1 with ⟨h1, h1'⟩ | ⟨i, hi, h1⟩ <;> rcases h2 with ⟨h2, h2'⟩ | ⟨j, hj, h2⟩
      · exact h.disj _ _ _ h1' h2'
      · exact (hcross _ _ _ h1 h1' h2).elim
      · exact (hcross _ _ _ h2 h2' h1).elim
      · have := hd' _ _ _ h1 h2
        subst this
        rw [hi] at hj; cases hj; rfl
    · rcases hk with ⟨_, hk⟩ | ⟨i, hi, hk⟩
      · exact ⟨(h.new s k hk).1, Nat.lt_of_lt_of_le (h.new s k hk).2 hkeep.size⟩
      · refine ⟨?_, (hF' i k hk).2.2⟩
        rcases hF'k i k hk with ⟨j, s', _, hF⟩ | hge
        · exact (h.new s' k hF).1
        · exact .inl (Nat.le_trans h.keeps.size hge)
    · rcases hk with ⟨hk, _⟩ | ⟨i, s, _, hk, _⟩
      · exact Nat.lt_of_lt_of_le (h.imm k hk) hkeep.size
      · exact (hF' i k hk).2.2
    · rcases hk with ⟨hs, hk⟩ | ⟨i, hi, hk⟩
      · show c2.I k ↔ ¬ c.top s k
        rw [← h.inn s k hk]
        constructor
        · rintro (⟨h1, _⟩ | ⟨i, s', hs', h1, _⟩)
          · exact h1
          · exact (hcross _ _ _ hs hk h1).elim
        · exact fun h1 => .inl ⟨h1, fun ⟨i, s', hs', hF⟩ => by have := h.disj _ _ _ hk hF; subst this; exact hs (List.mem_of_getElem? hs')⟩
      · show c2.I k ↔ ¬ c.top s k
        constructor
        · rintro (⟨h1, h2⟩ | ⟨j, s', hs', h1, h2⟩)
          · rcases hF'k i k hk with ⟨j, s', hs', hF⟩ | hge
            · exact absurd ⟨j, s', hs', hF⟩ h2
            · have := h.imm k h1; omega
          · have := hd' _ _ _ hk h1
            subst this
            rw [hi] at hs'; cases hs'; exact h2
        · exact fun h1 => .inr ⟨i, s, hi, hk, h1⟩
    · simp only [AS.of, lkM_upd] at hk
      cases hq : lkM ml s with
      | none => simp [hq] at hk
      | some q =>
        simp only [hq, Option.map_some, Option.some.injEq] at hk
        by_cases hs : s ∈ ss
        · obtain ⟨i, hi⟩ := hmemss hs
          have hil : i < bs.length := by rw [← hlen]; exact (List.getElem?_eq_some_iff.1 hi).1
          have hb' : bs'[i]? = some bs'[i] := by simp [hbl, hil]
          rw [updM_new (p := (s, q)) hnd hi hb'] at hk
          cases hk
        · rw [updM_old (p := (s, q)) hs] at hk
          subst hk
          obtain ⟨q1, q2, q3⟩ := h.par s v x hq
          exact ⟨q1, q2, fun k hk => .inl ⟨q3 k hk, fun ⟨i, s, _, hF⟩ => h.old_not hk hF⟩⟩
  exact ⟨r, c2, F2, rfl, hH, .lit r, hr⟩
end
end Go.Proofs.Ytlijeincckbdaaa
namespace Go.Proofs.Ytlijeincckbdaaa
open Go.RowKit
set_option linter.unusedSimpArgs false
set_option linter.unusedVariables false

def isEff (E : Tab) : Op → Bool
  | .store _ _ _ => true
  | .makeMap _ none => true
  | .mapUpdate _ _ _ _ => true
  | .call c => match c.callee with
    | .builtin .append => true
    | .value (.func f) => E.wr.contains f
    | _ => false
  | _ => false

/-- A value that speaks of no memory. -/
def IsLit : T → Value → Prop
  | .one (.lit v), u => v = u
  | .agg xs, u => ∃ X : List Value, xs = X.map .lit ∧ u = .agg X.toArray
  | _, _ => False
def opMapSet (P : Program) (σ : AS) (t : TypeId) (x k v : T) (K : AS → T → Prop) : Prop :=
  match x, k with
  | .one (.lit (.map (some b))), .one (.lit (.string s)) => ∃ kt vt p es u, P.underlying t = some (.map kt vt) ∧ P.underlying kt = some .string ∧ σ.mem p = some (.mapb b es) ∧ IsLit v u ∧
      K (σ.set p (.mapb b (upM es s u))) (.tup [])
  | _, _ => False
/-- The operations that write. -/
def ope (P : Program) (E : Tab) (site : Nat) (op : Op) (σ : AS) (K : AS → T → Prop) : Prop :=
  match op with
  | .store t x y => opStore E σ t (σ.get x) (σ.get y) fun σ' => K σ' (.tup [])
  | .makeMap _ none => σ.mem site = none ∧ ∀ b, K (σ.add site (.mapb b [])) (.one (.lit (.map (some b))))
  | .mapUpdate t x k v => opMapSet P σ t (σ.get x) (σ.get k) (σ.get v) K
  | .call c => match c.callee, c.args.toList, c.argTypes.toList with
    | .builtin .append, [x, y], [t, t'] => if t = t' then opAppend E σ site t (σ.get x) (σ.get y) K else False
    | .value (.func f), args, _ => match E.own.contains f with
      | true => opOwn P f args σ K
      | false => match E.own.contains (f + 1000000) with
        | true => opFam P f args σ K
        | false => opMark P f args σ K
    | _, _, _ => False
  | _ => False

/-- New places are new. -/
def vcNews (m : Nat → Option Blk) : News → Prop → Prop
  | [], K => K
  | (s, b) :: l, K => match m s with
    | none => (match !b.isPar && l.all fun y => y.1 != s with
      | true => vcNews m l K
      | false => False)
    | some _ => False

theorem vcNews_ok {m : Nat → Option Blk} {K : Prop} : ∀ {l : News}, vcNews m l K → Fresh m l ∧ (l.map (·.1)).Nodup ∧ K ∧ ∀ x ∈ l, x.2.isPar = false
  | [], h => ⟨(fun x hx => (by cases hx)), List.nodup_nil, h, (fun x hx => (by cases hx))⟩
  | (s, k) :: l, h => by
    simp only [vcNews] at h
    split at h
    · rename_i hs
      split at h
      · rename_i ha
        obtain ⟨h1, h2, h3, h4⟩ := vcNews_ok h
        simp only [Bool.and_eq_true, Bool.not_eq_true'] at ha
        obtain ⟨hp, ha⟩ := ha
        refine ⟨fun x hx => ?_, ?_, h3, fun x hx => ?_⟩
        · cases hx with
          | head => exact hs
          | tail _ hx => exact h1 x hx
        · simp only [List.map_cons, List.nodup_cons, List.mem_map, not_exists, not_and]
          refine ⟨fun y hy e => ?_, h2⟩
          have := List.all_eq_true.1 ha y hy
          simp [e] at this
        · cases hx with
          | head => exact hp
          | tail _ hx => exact h4 x hx
      · exact h.elim
    · exact h.elim

def vcOp (P : Program) (E : Tab) (o : Oper) (σ : AS) (K : AS → Prop) : Prop :=
  match isEff E o.op with
  | true => ope P E (siteOf o) o.op σ fun σ' v => K (σ'.put o.dst v)
  | false => opn P E (siteOf o) o.op σ.get σ.mem fun v news => vcNews σ.mem news (K ((σ.adds news).put o.dst v))

def gdst (ops : Array Oper) (j : Nat) : Option Nat := (ops[j]?).bind (·.dst)

/-- A region, in the order of its text. (By the recursor itself: then the kernel and the elaborator evaluate it alike.) -/
def vcOps (P : Program) (E : Tab) (ops : Array Oper) (l : List Oper) : AS → (AS → Prop) → Prop :=
  List.rec (motive := fun _ => AS → (AS → Prop) → Prop) (fun σ Q => Q σ) (fun o _ ih σ Q => match o.guard with
    | none => vcOp P E o σ fun σ' => ih σ' Q
    | some (j, want) => match isEff E o.op with
      | true => False
      | false => match gdst ops j with
        | some t => match σ.tm t with
          | .one (.lit (.bool b)) => match b with
            | true => (match want with
              | true => vcOp P E o (σ.put (some t) (.one (.lit (.bool true)))) fun σ' => ih σ' Q
              | false => ih ((σ.put (some t) (.one (.lit (.bool true)))).put o.dst (.tup [])) Q)
            | false => (match want with
              | true => ih ((σ.put (some t) (.one (.lit (.bool false)))).put o.dst (.tup [])) Q
              | false => vcOp P E o (σ.put (some t) (.one (.lit (.bool false)))) fun σ' => ih σ' Q)
          | .tup [] => ih (σ.put o.dst (.tup [])) Q
          | _ => False
        | none => False) l
theorem vcOps_nil {P : Program} {E : Tab} {ops : Array Oper} {σ : AS} {Q : AS → Prop} : vcOps P E ops [] σ Q = Q σ := rfl
theorem vcOps_cons {P : Program} {E : Tab} {ops : Array Oper} {o : Oper} {rest : List Oper} {σ : AS} {Q : AS → Prop} : vcOps P E ops (o :: rest) σ Q = (match o.guard with
    | none => vcOp P E o σ fun σ' => vcOps P E ops rest σ' Q
    | some (j, want) => match isEff E o.op with
      | true => False
      | false => match gdst ops j with
        | some t => match σ.tm t with
          | .one (.lit (.bool b)) => match b with
            | true => (match want with
              | true => vcOp P E o (σ.put (some t) (.one (.lit (.bool true)))) fun σ' => vcOps P E ops rest σ' Q
              | false => vcOps P E ops rest ((σ.put (some t) (.one (.lit (.bool true)))).put o.dst (.tup [])) Q)
            | false => (match want with
              | true => vcOps P E ops rest ((σ.put (some t) (.one (.lit (.bool false)))).put o.dst (.tup [])) Q
              | false => vcOp P E o (σ.put (some t) (.one (.lit (.bool false)))) fun σ' => vcOps P E ops rest σ' Q)
          | .tup [] => vcOps P E ops rest (σ.put o.dst (.tup [])) Q
          | _ => False
        | none => False) := rfl

section
variable {P : Program} {w0 w : World} {L : Nat → Prop} {n : Nat} {σ : AS} {a : Act} {c : Ctx} {F : Nat → Nat → Prop} {ops : Array Oper}

/-- The operation is wanted; it is not. -/
def wants (ops : Array Oper) (σ : AS) (o : Oper) : Prop :=
  match o.guard with
  | none => True
  | some (j, want) => ∃ t, gdst ops j = some t ∧ σ.tm t = .one (.lit (.bool want))
def skips (ops : Array Oper) (σ : AS) (o : Oper) : Prop :=
  match o.guard with
  | none => False
  | some (j, want) => ∃ t, gdst ops j = some t ∧ (σ.tm t = .one (.lit (.bool (!want))) ∨ σ.tm t = .tup [])

theorem getD_cases (a : Array Value) (t : Nat) : a[t]? = some (a.getD t undef) ∨ (a[t]? = none ∧ a.getD t undef = undef) := by
  cases h : a[t]? with
  | none => exact .inr ⟨rfl, by simp [Array.getD_eq_getD_getElem?, h]⟩
  | some v => exact .inl (by simp [Array.getD_eq_getD_getElem?, h])
theorem yielded_bool (h : H w0 L n σ a w c F) {j t : Nat} (ht : gdst ops j = some t) {b : Bool} (hb : σ.tm t = .one (.lit (.bool b))) : yielded ops a.tmps j = some b := by
  have := h.tm t
  rw [hb] at this
  have := one_lit this
  unfold gdst at ht
  simp only [yielded, ht, Option.bind_some]
  rcases getD_cases a.tmps t with h1 | ⟨_, h1⟩
  · rw [h1, this]
  · rw [h1] at this; cases this
theorem yielded_undef (h : H w0 L n σ a w c F) {j t : Nat} (ht : gdst ops j = some t) (hb : σ.tm t = .tup []) : yielded ops a.tmps j = none := by
  have := h.tm t
  rw [hb] at this
  unfold gdst at ht
  simp only [yielded, ht, Option.bind_some]
  rcases getD_cases a.tmps t with h1 | ⟨h1, _⟩
  · rw [h1]
    generalize a.tmps.getD t undef = v at this ⊢
    cases v <;> first | rfl | exact this.elim
  · rw [h1]

theorem wants_ok (h : H w0 L n σ a w c F) {o : Oper} (hw : wants ops σ o) : Region.wanted o (yielded ops a.tmps) = true := by
  unfold wants at hw
  unfold Region.wanted
  split at hw
  · rename_i hg; rw [hg]
  · rename_i j want hg
    obtain ⟨t, h1, h2⟩ := hw
    rw [hg]
    simp [yielded_bool h h1 h2]
theorem skips_ok (h : H w0 L n σ a w c F) {o : Oper} (hw : skips ops σ o) : Region.wanted o (yielded ops a.tmps) = false := by
  unfold skips at hw
  unfold Region.wanted
  split at hw
  · exact hw.elim
  · rename_i j want hg
    obtain ⟨t, h1, h2⟩ := hw
    rw [hg]
    rcases h2 with h2 | h2
    · simp [yielded_bool h h1 h2]
    · simp [yielded_undef h h1 h2]

/-- What an operation has come to: a value and new places; or it was not wanted. -/
abbrev Dec := Option (T × News)
def app (o : Oper) (d : Dec) (σ : AS) : AS :=
  match d with
  | some (v, news) => (σ.adds news).put o.dst v
  | none => σ.put o.dst (.tup [])
def VOk (P : Program) (E : Tab) (ops : Array Oper) (o : Oper) (d : Dec) (σ : AS) (m : Nat → Option Blk) : Prop :=
  match d with
  | some (v, news) => wants ops σ o ∧ opn P E (siteOf o) o.op σ.get m (fun v' n' => v' = v ∧ n' = news) ∧ Fresh σ.mem news ∧ ∀ x ∈ news, m x.1 = some x.2
  | none => skips ops σ o

/-- The trace of a region, over a list of its operations' numbers. -/
def Tr (P : Program) (E : Tab) (ops : Array Oper) (Q : AS → Prop) : List Nat → AS → (Nat → Option Blk) → Prop
  | [], σ, _ => Q σ
  | i :: l, σ, m => ∃ o, ops[i]? = some o ∧ if isEff E o.op then o.guard = none ∧ m = σ.mem ∧ ope P E (siteOf o) o.op σ (fun σ' v => ∃ m', Le (σ'.put o.dst v).mem m' ∧ Tr P E ops Q l (σ'.put o.dst v) m')
    else ∃ d, VOk P E ops o d σ m ∧ Tr P E ops Q l (app o d σ) m

/-- More memory does no harm. -/
theorem opn'_up {m m' : Nat → Option Blk} (hm : ∀ s k, m s = some k → m' s = some k) {site : Nat} {op : Op} {g : Operand → T} {K : T → News → Prop} {E : Tab} (h : opn P E site op g m K) : opn P E site op g m' K := by
  unfold opn at h ⊢
  split at h <;> try exact h
  · -- load
    simp only [opLoad] at h ⊢
    split at h
    case h_2 => exact h
    split at h
    · split at h
      · rename_i hs; rw [hm _ _ hs]; exact h
      · exact h.elim
    · split at h
      · rename_i hs; rw [hm _ _ hs]; exact h
      · exact h.elim
    · exact h
    · exact h.elim
  · -- conversion
    simp only [opConv2] at h ⊢
    split at h <;> try exact h
    simp only [opToStr] at h ⊢
    split at h <;> try exact h
    split at h <;> try exact h
    split at h
    case isFalse => exact h.elim
    rename_i hc
    rw [if_pos hc]
    obtain ⟨p, es, l, h1, h2, h3⟩ := h
    refine ⟨p, es, l, ?_, h2, h3⟩
    unfold opSrc at h1 ⊢
    split at h1 <;> try exact h1
    split at h1
    · rename_i hs; rw [hm _ _ hs]; exact h1
    · exact h1.elim
  · -- slice
    simp only [opSlice] at h ⊢
    split at h
    case h_2 => exact h
    split at h
    · exact h
    · split at h
      case h_2 => exact h
      split at h
      · obtain ⟨h1, h2, h3, h4⟩ := h
        refine ⟨h1, h2, h3, ?_⟩
        split at h4
        · rename_i hs; rw [hm _ _ hs]; exact h4
        · exact h4.elim
      · exact h
      · exact h.elim
    · exact h.elim
  · -- indexAddr
    simp only [opIndexAddr] at h ⊢
    split at h
    case h_2 => exact h
    split at h
    · obtain ⟨i, h1, h2, h4⟩ := h
      refine ⟨i, h1, h2, ?_⟩
      split at h4
      · rename_i hs; rw [hm _ _ hs]; exact h4
      · exact h4.elim
    · exact h
    · obtain ⟨s, o, es, h1, h2⟩ := h
      exact ⟨s, o, es, hm _ _ h1, h2⟩
    · exact h.elim
  · -- lookup
    unfold opLookup at h ⊢
    split at h
    case h_2 => exact h.elim
    obtain ⟨kt, vt, p, es, z, v, h1, h2, h3, h4⟩ := h
    exact ⟨kt, vt, p, es, z, v, h1, h2, hm _ _ h3, h4⟩
  · -- call
    split at h <;> try exact h
    unfold opCall at h ⊢
    split at h
    · obtain ⟨us, r, h1, h2, h3⟩ := h
      exact ⟨us, r, h1, h2.up hm, h3⟩
    · exact h.elim

theorem opBin_val {E : Tab} {K : T → News → Prop} {op : BinOp} {t : TypeId} {x y : T} (h : opBin E K op t x y) : ∃ v news, K v news ∧ opBin E (fun v' n' => v' = v ∧ n' = news) op t x y := by
  simp only [opBin] at h ⊢
  split at h
  · split at h
    · obtain ⟨h1, r, h2, h3⟩ := h; exact ⟨_, _, h3, h1, r, h2, rfl, rfl⟩
    · obtain ⟨h1, r, h2, h3⟩ := h; exact ⟨_, _, h3, h1, r, h2, rfl, rfl⟩
    · split at h
      case isFalse => exact h.elim
      rename_i hk
      subst hk
      simp only [if_true]
      split at h
      all_goals first
        | exact h.elim
        | exact ⟨_, _, h, rfl, rfl⟩
        | (obtain ⟨h1, r, h2, h3⟩ := h; exact ⟨_, _, h3, h1, r, h2, rfl, rfl⟩)
        | (obtain ⟨r, h2, h3⟩ := h; exact ⟨_, _, h3, r, h2, rfl, rfl⟩)
  · split at h <;> first
      | exact h.elim
      | exact ⟨_, _, h, rfl, rfl⟩
      | exact ⟨_, _, h.2, h.1, rfl, rfl⟩
  · split at h <;> first | exact h.elim | exact ⟨_, _, h, rfl, rfl⟩
  · split at h <;> first | exact h.elim | exact ⟨_, _, h, rfl, rfl⟩
  · split at h
    · split at h <;> first | exact h.elim | exact ⟨_, _, h, rfl, rfl⟩
    · exact h.elim
  · exact h.elim
/-- What an operation yields is one value. -/
theorem opn'_val {m : Nat → Option Blk} {site : Nat} {op : Op} {g : Operand → T} {K : T → News → Prop} {E : Tab} (h : opn P E site op g m K) : ∃ v news, K v news ∧ opn P E site op g m (fun v' n' => v' = v ∧ n' = news) := by
  unfold opn at h ⊢
  split at h
  · exact ⟨_, _, h, rfl, rfl⟩
  · exact ⟨_, _, h, rfl, rfl⟩
  · simp only [opPick] at h ⊢
    split at h
    · rename_i cb _
      cases cb
      · exact ⟨_, _, h, rfl, rfl⟩
      · exact ⟨_, _, h, rfl, rfl⟩
    · exact h.elim
  · simp only [opAlloc] at h ⊢
    split at h
    · exact ⟨_, _, h, rfl, rfl⟩
    · exact h.elim
  · simp only [opBox] at h ⊢
    split at h
    · exact ⟨_, _, h, rfl, rfl⟩
    · exact h.elim
  · simp only [opBuild] at h ⊢
    split at h
    · split at h
      · exact ⟨_, _, h, rfl, rfl⟩
      · exact h.elim
    · exact h.elim
  · simp only [opBuildSlice] at h ⊢
    split at h
    · split at h
      · split at h
        case isFalse => exact h.elim
        rename_i hc
        split at h
        · exact ⟨_, _, h, by rw [if_pos hc]; exact ⟨rfl, rfl⟩⟩
        · exact h.elim
      · exact h.elim
    · exact h.elim
  · simp only [opLoad] at h ⊢
    split at h
    · split at h
      · split at h
        · split at h
          case isFalse => exact h.elim
          rename_i hc
          exact ⟨_, _, h, by rw [if_pos hc]; exact ⟨rfl, rfl⟩⟩
        · exact h.elim
      · split at h
        · obtain ⟨e, h1, h3⟩ := h
          split at h3
          case isFalse => exact h3.elim
          rename_i hc
          exact ⟨_, _, h3, e, h1, by rw [if_pos hc]; exact ⟨rfl, rfl⟩⟩
        · exact h.elim
      · split at h
        case isFalse => exact h.elim
        rename_i hc
        exact ⟨_, _, h, by rw [if_pos hc]; exact ⟨rfl, rfl⟩⟩
      · exact h.elim
    · exact h.elim
  · simp only [opNilCheck] at h ⊢
    split at h <;> first | exact h.elim | exact ⟨_, _, h, rfl, rfl⟩
  · split at h
    · rename_i ex ey
      obtain ⟨X, Y, b, h1, h2, h3, h4, h5⟩ := h
      exact ⟨_, _, h5, X, Y, b, h1, h2, h3, h4, rfl, rfl⟩
    · rename_i hne
      obtain ⟨v, news, h1, h2⟩ := opBin_val h
      exact ⟨v, news, h1, h2⟩
  · simp only [opUn] at h ⊢
    split at h <;> first | exact h.elim | exact ⟨_, _, h, rfl, rfl⟩ | (obtain ⟨r, h1, h2⟩ := h; exact ⟨_, _, h2, r, h1, rfl, rfl⟩)
  · simp only [opConv2] at h ⊢
    split at h
    · simp only [opToBytes] at h ⊢
      split at h
      · split at h
        · split at h
          case isFalse => exact h.elim
          rename_i hc
          exact ⟨_, _, h.2, by rw [if_pos hc]; exact ⟨h.1, rfl, rfl⟩⟩
        · exact h.elim
      · exact h.elim
    · simp only [opToStr] at h ⊢
      split at h
      · split at h
        · split at h
          case isFalse => exact h.elim
          rename_i hc
          obtain ⟨p, es, l, h1, h2, h3⟩ := h
          exact ⟨_, _, h3, by rw [if_pos hc]; exact ⟨p, es, l, h1, h2, rfl, rfl⟩⟩
        · exact h.elim
      · exact h.elim
    simp only [opConv] at h ⊢
    split at h
    · split at h
      · obtain ⟨r, h2, h3⟩ := h
        exact ⟨_, _, h3, r, h2, rfl, rfl⟩
      · exact h.elim
    · split at h
      · exact ⟨_, _, h, rfl, rfl⟩
      · exact h.elim
    · exact h.elim
  · simp only [opMakeFunc] at h ⊢
    split at h <;> first | exact h.elim | exact ⟨_, _, h, rfl, rfl⟩
  · simp only [opMakeSlice] at h ⊢
    split at h
    · split at h
      · split at h
        case isFalse => exact h.elim
        rename_i hc
        obtain ⟨h2, h3, h4, h5, h6, h⟩ := h
        exact ⟨_, _, h, by rw [if_pos hc]; exact ⟨h2, h3, h4, h5, h6, rfl, rfl⟩⟩
      · exact h.elim
    · exact h.elim
  · simp only [opSlice] at h ⊢
    split at h
    · split at h
      · split at h
        · obtain ⟨h1, h2, h3, s', h4, h⟩ := h
          exact ⟨_, _, h, h1, h2, h3, s', h4, rfl, rfl⟩
        · exact h.elim
      · split at h
        · split at h
          · obtain ⟨h1, h2, h3, h⟩ := h
            split at h
            · split at h
              case isFalse => exact h.elim
              rename_i hrz
              subst hrz
              obtain ⟨o, l, h5, h6, h⟩ := h
              exact ⟨_, _, h, h1, h2, h3, by rw [if_pos rfl]; exact ⟨o, l, h5, h6, rfl, rfl⟩⟩
            · exact h.elim
          · obtain ⟨h1, h2, h3, h⟩ := h
            split at h
            case isFalse => exact h.elim
            rename_i hrz
            subst hrz
            obtain ⟨es', h5, h⟩ := h
            exact ⟨_, _, h, h1, h2, h3, by rw [if_pos rfl]; exact ⟨es', h5, rfl, rfl⟩⟩
          · exact h.elim
        · exact h.elim
      · exact h.elim
    · exact h.elim
  · simp only [opFieldAddr] at h ⊢
    split at h
    · split at h <;> first | exact h.elim | exact ⟨_, _, h, rfl, rfl⟩
    · exact h.elim
  · simp only [opField] at h ⊢
    split at h
    · split at h
      · split at h
        case isFalse => exact h.elim
        rename_i hc
        exact ⟨_, _, h, by rw [if_pos hc]; exact ⟨rfl, rfl⟩⟩
      · exact h.elim
    · exact h.elim
  · simp only [opIndexAddr] at h ⊢
    split at h
    · split at h
      · obtain ⟨i, h1, h2, h⟩ := h
        split at h
        · split at h
          case isFalse => exact h.elim
          rename_i hrz
          subst hrz
          exact ⟨_, _, h, i, h1, h2, by rw [if_pos rfl]; exact ⟨rfl, rfl⟩⟩
        · exact h.elim
      · split at h
        case isFalse => exact h.elim
        rename_i hrz
        subst hrz
        obtain ⟨i, h1, e, h3, h⟩ := h
        exact ⟨_, _, h, by rw [if_pos rfl]; exact ⟨i, h1, e, h3, rfl, rfl⟩⟩
      · obtain ⟨s, o, es, h1, i, h2, e, h3, h⟩ := h
        exact ⟨_, _, h, s, o, es, h1, i, h2, e, h3, rfl, rfl⟩
      · exact h.elim
    · exact h.elim
  · simp only [opIndex] at h ⊢
    split at h
    · obtain ⟨i, h1, h2, h⟩ := h; exact ⟨_, _, h, i, h1, h2, rfl, rfl⟩
    · exact h.elim
  · simp only [opExtract] at h ⊢
    split at h
    · split at h <;> first | exact h.elim | exact ⟨_, _, h, rfl, rfl⟩
    · exact h.elim
  · unfold opLookup at h ⊢
    split at h
    case h_2 => exact h.elim
    obtain ⟨kt, vt, p, es, z, v, h1, h2, h3, h4, h5, h6, h7⟩ := h
    exact ⟨_, _, h7, kt, vt, p, es, z, v, h1, h2, h3, h4, h5, h6, rfl, rfl⟩
  · split at h
    · split at h
      · simp only [opLen] at h ⊢
        split at h
        all_goals first
          | exact h.elim
          | exact ⟨_, _, h, rfl, rfl⟩
      · exact h.elim
    · split at h
      · simp only [opMinMax] at h ⊢
        split at h <;> first | exact h.elim | exact ⟨_, _, h, rfl, rfl⟩
      · exact h.elim
    · split at h
      · simp only [opMinMax] at h ⊢
        split at h <;> first | exact h.elim | exact ⟨_, _, h, rfl, rfl⟩
      · exact h.elim
    · unfold opCall at h ⊢
      split at h
      · obtain ⟨us, r, h1, h2, h4⟩ := h
        exact ⟨_, _, h4, us, r, h1, h2, rfl, rfl⟩
      · exact h.elim
    · exact h.elim
  · exact h.elim
end
end Go.Proofs.Ytlijeincckbdaaa
