/- The abstract machine: what a callee hands back, and the call. -/
import Derived.Test.YtlijeincckbdaaaA7
namespace Go.Proofs.Ytlijeincckbdaaa
open Go.RowKit
set_option linter.unusedSimpArgs false
set_option linter.unusedVariables false

/-- It holds nothing that is only read. -/
def AV.nb : Nat → AV → Bool
  | _, .lit _ => true
  | k + 1, .row true _ es => es.all fun e => e.all (AV.nb k)
  | _, _ => false
def T.nb : T → Bool
  | .one x => x.nb 5
  | .agg xs => xs.all (AV.nb 5)
  | .tup ts => ts.all fun t => t.2.all (AV.nb 5)
  | .dead => false

/-- What is handed back, with all blocks that it owns. -/
def ROL (c : Ctx) (w : World) : (Nat → Prop) → List AV → List Value → Prop
  | F, [], [] => ∀ k, ¬ F k
  | F, x :: xs, v :: vs => ∃ F1 F2 : Nat → Prop, (RO c w F1 x v ∧ v.oneCell' = true) ∧ ROL c w F2 xs vs ∧ (∀ k, F1 k → ¬ F2 k) ∧ ∀ k, F k ↔ F1 k ∨ F2 k
  | _, _, _ => False
def ROTs (c : Ctx) (w : World) : (Nat → Prop) → List (Bool × List AV) → List Value → Prop
  | F, [], [] => ∀ k, ¬ F k
  | F, (false, [x]) :: xs, v :: vs => ∃ F1 F2 : Nat → Prop, (RO c w F1 x v ∧ v.oneCell' = true) ∧ ROTs c w F2 xs vs ∧ (∀ k, F1 k → ¬ F2 k) ∧ ∀ k, F k ↔ F1 k ∨ F2 k
  | F, (true, ys) :: xs, .agg us :: vs => ∃ F1 F2 : Nat → Prop, ROL c w F1 ys us.toList ∧ ROTs c w F2 xs vs ∧ (∀ k, F1 k → ¬ F2 k) ∧ ∀ k, F k ↔ F1 k ∨ F2 k
  | _, _, _ => False
def ROT' (c : Ctx) (w : World) (F : Nat → Prop) : T → Value → Prop
  | .one x, v => RO c w F x v ∧ v.oneCell' = true
  | .agg xs, .agg vs => ROL c w F xs vs.toList
  | .tup ts, .tuple vs => ROTs c w F ts vs.toList
  | _, _ => False

def Callable (P : Program) (f : FuncId) : Prop := ∃ fn, P.funcs[f]? = some fn ∧ fn.body.isNone = false ∧ (fn.name == "runtime.NumGoroutine") = false

/-- THE CONTRACT: called with arguments that read so, the function hands this back, in new memory, and writes to nothing that was there. -/
def Fun1 (P : Program) (f : FuncId) (args : List T) (r : T) : Prop :=
  Callable P f ∧ r.nb = true ∧ ∀ (w : World) (I : Nat → Prop) (vs : Array Value), (∀ b, I b → b < w.heap.size) → RTL (c0 I) w args vs.toList →
    Calls P f vs w fun e w' => ∃ v F, e = .returned v ∧ ROT' (c0 I) w' F r v ∧ (∀ k, F k → w.heap.size ≤ k ∧ k < w'.heap.size) ∧ Below w.heap.size w w'

def openAV (s : Nat) : AV → AV × News
  | .row true sz es => (.loc s 0 es.length, [(s, .row true sz es)])
  | x => (x, [])
def openL (s : Nat) : List AV → List AV × News
  | [] => ([], [])
  | x :: xs => ((openAV s x).1 :: (openL (s + 1) xs).1, (openAV s x).2 ++ (openL (s + 1) xs).2)
def openTs (s : Nat) : List (Bool × List AV) → List (Bool × List AV) × News
  | [] => ([], [])
  | (b, xs) :: ts => ((b, (openL s xs).1) :: (openTs (s + xs.length) ts).1, (openL s xs).2 ++ (openTs (s + xs.length) ts).2)
def openT (s : Nat) : T → T × News
  | .one x => (.one (openAV s x).1, (openAV s x).2)
  | .agg xs => (.agg (openL s xs).1, (openL s xs).2)
  | .tup ts => (.tup (openTs s ts).1, (openTs s ts).2)
  | .dead => (.dead, [])

def opCall (P : Program) (m : Nat → Option Blk) (K : T → News → Prop) (site : Nat) (f : T) (ts : List T) : Prop :=
  match f with
  | .one (.fn f caps) => ∃ us r, Fun1 P f us r ∧ LendTs m (ts ++ caps.map T.one) us ∧ K (openT site r).1 (openT site r).2
  | _ => False

section
variable {P : Program} {w0 w : World} {L : Nat → Prop} {n : Nat} {σ : AS} {a : Act} {c : Ctx} {F : Nat → Nat → Prop} {K : T → News → Prop}

theorem RO.nb {c c' : Ctx} {w : World} {F : Nat → Prop} {x : AV} {v : Value} (h : RO c w F x v) : ∀ k, x.nb k = true → RO c' w F x v := by
  induction h with
  | @plain F x v a1 a2 a3 =>
    intro k hk
    cases x <;> first | (cases k <;> simp [AV.nb] at hk; done) | skip
    · cases a2; exact .plain rfl (.lit _) a3
    · cases k with
      | zero => simp [AV.nb] at hk
      | succ k => simp [AV.isData] at a1; subst a1; simp [AV.nb] at hk
  | nil a => exact fun _ _ => .nil a
  | @own F sz es cap A b C e fz G a1 a2 a3 a4 a5 a6 a7 a8 a9 a10 a11 a12 a13 ih =>
    intro k hk
    cases k with
    | zero => simp [AV.nb] at hk
    | succ k =>
      refine .own b C e fz G a1 a2 a3 a4 a5 a6 a7 (fun i j x v hx hv => ih i j x v hx hv k ?_) a9 a10 a11 a12 a13
      simp only [AV.nb, List.all_eq_true] at hk
      unfold elt at hx
      cases he : es[i]? with
      | none => simp [he] at hx
      | some e => simp [he] at hx; exact hk e (List.mem_of_getElem? he) x (List.mem_of_getElem? hx)

theorem ROL.nb {c c' : Ctx} {w : World} : ∀ {F : Nat → Prop} {xs : List AV} {vs : List Value}, ROL c w F xs vs → xs.all (AV.nb 5) = true → ROL c' w F xs vs
  | _, [], [], h, _ => h
  | _, x :: xs, v :: vs, ⟨F1, F2, h1, h2, h3, h4⟩, h => by
    simp only [List.all_cons, Bool.and_eq_true] at h
    exact ⟨F1, F2, ⟨h1.1.nb 5 h.1, h1.2⟩, ROL.nb h2 h.2, h3, h4⟩
theorem ROTs.nb {c c' : Ctx} {w : World} : ∀ {F : Nat → Prop} {ts : List (Bool × List AV)} {vs : List Value}, ROTs c w F ts vs → (ts.all fun t => t.2.all (AV.nb 5)) = true → ROTs c' w F ts vs
  | _, [], [], h, _ => h
  | _, (false, [x]) :: xs, v :: vs, ⟨F1, F2, h1, h2, h3, h4⟩, h => by
    simp only [List.all_cons, Bool.and_eq_true, List.all_nil, Bool.and_true] at h
    exact ⟨F1, F2, ⟨h1.1.nb 5 h.1, h1.2⟩, ROTs.nb h2 h.2, h3, h4⟩
  | _, (true, ys) :: xs, .agg us :: vs, ⟨F1, F2, h1, h2, h3, h4⟩, h => by
    simp only [List.all_cons, Bool.and_eq_true] at h
    exact ⟨F1, F2, ROL.nb h1 h.1, ROTs.nb h2 h.2, h3, h4⟩
theorem ROT'.nb {c c' : Ctx} {w : World} {F : Nat → Prop} {t : T} {v : Value} (h : ROT' c w F t v) (hn : t.nb = true) : ROT' c' w F t v := by
  cases t with
  | dead => cases v <;> exact h.elim
  | one x => exact ⟨h.1.nb 5 hn, h.2⟩
  | agg xs => cases v <;> first | exact h.elim | exact ROL.nb h hn
  | tup ts => cases v <;> first | exact h.elim | exact ROTs.nb h hn

theorem ROL.mono {c c' : Ctx} {w w' : World} (h1 : ∀ s i, c.at_ s = some i → c'.at_ s = some i) (h2 : ∀ b, c.I b → c'.I b) (h3 : ∀ b, c.I b → w'.heap[b]? = w.heap[b]?) : ∀ {F : Nat → Prop} {xs : List AV} {vs : List Value}, ROL c w F xs vs → (∀ b, F b → w'.heap[b]? = w.heap[b]?) → ROL c' w' F xs vs
  | _, [], [], h, _ => h
  | _, x :: xs, v :: vs, ⟨F1, F2, h4, h5, h6, h7⟩, hF => ⟨F1, F2, ⟨h4.1.mono h1 h2 h3 fun b hb => hF b ((h7 b).2 (.inl hb)), h4.2⟩, ROL.mono h1 h2 h3 h5 (fun b hb => hF b ((h7 b).2 (.inr hb))), h6, h7⟩
theorem ROTs.mono {c c' : Ctx} {w w' : World} (h1 : ∀ s i, c.at_ s = some i → c'.at_ s = some i) (h2 : ∀ b, c.I b → c'.I b) (h3 : ∀ b, c.I b → w'.heap[b]? = w.heap[b]?) : ∀ {F : Nat → Prop} {xs : List (Bool × List AV)} {vs : List Value}, ROTs c w F xs vs → (∀ b, F b → w'.heap[b]? = w.heap[b]?) → ROTs c' w' F xs vs
  | _, [], [], h, _ => h
  | _, (false, [x]) :: xs, v :: vs, ⟨F1, F2, h4, h5, h6, h7⟩, hF => ⟨F1, F2, ⟨h4.1.mono h1 h2 h3 fun b hb => hF b ((h7 b).2 (.inl hb)), h4.2⟩, ROTs.mono h1 h2 h3 h5 (fun b hb => hF b ((h7 b).2 (.inr hb))), h6, h7⟩
  | _, (true, ys) :: xs, .agg us :: vs, ⟨F1, F2, h4, h5, h6, h7⟩, hF => ⟨F1, F2, ROL.mono h1 h2 h3 h4 (fun b hb => hF b ((h7 b).2 (.inl hb))), ROTs.mono h1 h2 h3 h5 (fun b hb => hF b ((h7 b).2 (.inr hb))), h6, h7⟩
theorem ROT'.mono {c c' : Ctx} {w w' : World} (h1 : ∀ s i, c.at_ s = some i → c'.at_ s = some i) (h2 : ∀ b, c.I b → c'.I b) (h3 : ∀ b, c.I b → w'.heap[b]? = w.heap[b]?) {F : Nat → Prop} {t : T} {v : Value} (h : ROT' c w F t v) (hF : ∀ b, F b → w'.heap[b]? = w.heap[b]?) : ROT' c' w' F t v := by
  cases t with
  | dead => cases v <;> exact h.elim
  | one x => exact ⟨h.1.mono h1 h2 h3 hF, h.2⟩
  | agg xs => cases v <;> first | exact h.elim | exact ROL.mono h1 h2 h3 h hF
  | tup ts => cases v <;> first | exact h.elim | exact ROTs.mono h1 h2 h3 h hF

/-- A new place, in blocks that nobody has. -/
theorem H.addSite' (h : H w0 L n σ a w c F) {s : Nat} {k : Blk} (hs : σ.mem s = none) {i : SI} {G : Nat → Prop}
    (hG : ∀ b, G b → (w0.heap.size ≤ b ∨ L b) ∧ b < w.heap.size ∧ ∀ s', ¬ F s' b) (hT : ∀ b, i.isTop b → G b → ¬ c.I b) (hk : BlkOk (c.add s i (fun b => G b ∧ ¬ i.isTop b)) w G s k) (hkp : k.isPar = false := by rfl) :
    H w0 L n (σ.add s k) a w (c.add s i (fun b => G b ∧ ¬ i.isTop b)) (fun s' b => (s' = s ∧ G b) ∨ F s' b) := by
  have hd := h.dom s hs
  obtain ⟨e1, e2⟩ := Ctx.add_ext hd.1 i (fun b => G b ∧ ¬ i.isTop b)
  have hF : (fun b => (s = s ∧ G b) ∨ F s b) = G := by funext b; simp [hd.2 b]
  have hns : ∀ s' b, s' ≠ s → ((s' = s ∧ G b) ∨ F s' b ↔ F s' b) := fun s' b hn => by simp [hn]
  refine ⟨h.keeps, h.size, h.defers, fun t => (h.tm t).mono e1 e2 (fun _ _ => rfl), fun s' k' hk' => ?_, fun s' hs' => ?_, fun s1 s2 b h1 h2 => ?_, fun s' b hb' => ?_, fun b hb' => ?_, fun s' b hb' => ?_, fun s' v x hs' => by
    by_cases e : s' = s
    · subst e; simp [AS.add] at hs'; subst hs'; cases hkp
    · simp [AS.add, e] at hs'; exact h.par s' v x hs'⟩
  · by_cases e : s' = s
    · subst e
      simp [AS.add] at hk'
      subst hk'
      rw [hF]; exact hk
    · simp [AS.add, e] at hk'
      have := (h.mem s' k' hk').mono e1 e2 (fun _ _ => rfl) (fun _ _ => rfl)
      rw [show (fun b => (s' = s ∧ G b) ∨ F s' b) = F s' from funext fun b => propext (hns s' b e)]
      exact this
  · have e : s' ≠ s := fun e => by subst e; simp [AS.add] at hs'
    simp [AS.add, e] at hs'
    have := h.dom s' hs'
    exact ⟨by simp [Ctx.add, e, this.1], fun b => by rw [hns s' b e]; exact this.2 b⟩
  · rcases h1 with ⟨rfl, h1⟩ | h1 <;> rcases h2 with ⟨rfl, h2⟩ | h2
    · rfl
    · exact absurd h2 ((hG b h1).2.2 _)
    · exact absurd h1 ((hG b h2).2.2 _)
    · exact h.disj _ _ _ h1 h2
  · rcases hb' with ⟨rfl, h1⟩ | h1
    · exact ⟨(hG b h1).1, (hG b h1).2.1⟩
    · exact h.new _ _ h1
  · rcases hb' with h1 | h1
    · exact h.imm _ h1
    · exact (hG b h1.1).2.1
  · by_cases e : s' = s
    · subst e
      have hg : G b := by rcases hb' with h1 | h1; exact h1.2; exact absurd h1 (hd.2 b)
      rw [Ctx.top_add_self]
      constructor
      · rintro (h1 | h1)
        · exact fun ht => hT b ht hg h1
        · exact h1.2
      · exact fun h1 => .inr ⟨hg, h1⟩
    · rw [Ctx.top_add_ne c e]
      have h1 : F s' b := (hns s' b e).1 hb'
      rw [← h.inn s' b h1]
      constructor
      · rintro (h2 | h2)
        · exact h2
        · exact absurd h1 ((hG b h2.1).2.2 _)
      · exact .inl

theorem adds_append (l1 l2 : News) : ∀ σ : AS, σ.adds (l1 ++ l2) = (σ.adds l1).adds l2 := by
  induction l1 with
  | nil => intro σ; rfl
  | cons x l ih => intro σ; obtain ⟨s, k⟩ := x; exact ih _

/-- Where nothing else is known of new blocks: they are at hand to be made places. -/
def Spare (w0 w : World) (c : Ctx) (F : Nat → Nat → Prop) (G : Nat → Prop) : Prop := ∀ b, G b → w0.heap.size ≤ b ∧ b < w.heap.size ∧ (∀ s', ¬ F s' b) ∧ ¬ c.I b

/-- How one state's places grow into another's. -/
structure Grow (c c' : Ctx) (F F' : Nat → Nat → Prop) (G : Nat → Prop) : Prop where
  at_ : ∀ s i, c.at_ s = some i → c'.at_ s = some i
  I : ∀ b, c.I b → c'.I b
  F : ∀ s b, F' s b → F s b ∨ G b
  J : ∀ b, c'.I b → c.I b ∨ G b
theorem Grow.refl (c : Ctx) (F : Nat → Nat → Prop) (G : Nat → Prop) : Grow c c F F G := ⟨fun _ _ h => h, fun _ h => h, fun _ _ h => .inl h, fun _ h => .inl h⟩
theorem Grow.trans {c c' c'' : Ctx} {F F' F'' : Nat → Nat → Prop} {G G' G'' : Nat → Prop} (h : Grow c c' F F' G) (k : Grow c' c'' F' F'' G') (h1 : ∀ b, G b → G'' b) (h2 : ∀ b, G' b → G'' b) : Grow c c'' F F'' G'' :=
  ⟨fun s i hs => k.at_ s i (h.at_ s i hs), fun b hb => k.I b (h.I b hb), fun s b hb => (k.F s b hb).elim (fun h' => (h.F s b h').imp id (h1 b)) (fun h' => .inr (h2 b h')), fun b hb => (k.J b hb).elim (fun h' => (h.J b h').imp id (h1 b)) (fun h' => .inr (h2 b h'))⟩
theorem Spare.mono {c c' : Ctx} {F F' : Nat → Nat → Prop} {G G1 : Nat → Prop} (h : Spare w0 w c F G) (g : Grow c c' F F' G1) (hd : ∀ b, G b → ¬ G1 b) : Spare w0 w c' F' G :=
  fun b hb => ⟨(h b hb).1, (h b hb).2.1, fun s hs => (g.F s b hs).elim ((h b hb).2.2.1 s) (hd b hb), fun hI => (g.J b hI).elim (h b hb).2.2.2 (hd b hb)⟩

theorem openAV_ok (h : H w0 L n σ a w c F) {s : Nat} {x : AV} {v : Value} {G : Nat → Prop} (hG : Spare w0 w c F G) (hf : Fresh σ.mem (openAV s x).2) (hX : RO c w G x v) :
    ∃ c' F', H w0 L n (σ.adds (openAV s x).2) a w c' F' ∧ R c' w (openAV s x).1 v ∧ Grow c c' F F' G := by
  by_cases hx : ∃ sz es, x = .row true sz es
  · obtain ⟨sz, es, rfl⟩ := hx
    have hs : σ.mem s = none := hf _ (List.mem_singleton.2 rfl)
    have hd := h.dom s hs
    rcases hX.inv with ⟨rfl, rfl, hn⟩ | ⟨b, cap, A, rfl, hA13, hB⟩
    · refine ⟨_, _, h.addSite' (i := .nil) (G := G) hs (fun b hb => ⟨.inl (hG b hb).1, (hG b hb).2.1, (hG b hb).2.2.1⟩) (fun b _ hb => (hG b hb).2.2.2) (.inl ⟨by simp [Ctx.add], rfl, hn⟩), .locnil (by simp [Ctx.add]), ?_⟩
      exact ⟨(Ctx.add_ext hd.1 _ _).1, (Ctx.add_ext hd.1 _ _).2, fun s' b hb => hb.elim (fun h => .inr h.2) .inl, fun b hb => hb.elim .inl (fun h => .inr h.1)⟩
    · have hB' := hB
      obtain ⟨C, e, fz, G', a1, a2, a3, a4, a5, a6, a7, a8, a9, a10, a11, a12⟩ := hB'
      obtain ⟨e1, e2⟩ := Ctx.add_ext hd.1 (.row b cap sz) (fun k => G k ∧ ¬ (SI.row b cap sz).isTop k)
      refine ⟨_, _, h.addSite' (i := .row b cap sz) (G := G) hs (fun b hb => ⟨.inl (hG b hb).1, (hG b hb).2.1, (hG b hb).2.2.1⟩) (fun b _ hb => (hG b hb).2.2.2) (.inr ⟨b, cap, by simp [Ctx.add], hB.mono e1 e2 (fun _ _ => rfl) (fun _ _ => rfl)⟩), ?_, ?_⟩
      · have := R.loc (c := c.add s (.row b cap sz) (fun k => G k ∧ ¬ (SI.row b cap sz).isTop k)) (w := w) (s := s) (off := 0) (len := es.length) (b := b) (cap := cap) (sz := sz) (A := A) (by simp [Ctx.add]) (by omega) (fun h0 => by simpa using hA13 h0)
        show R _ w (.loc s 0 es.length) _
        simpa using this
      · exact ⟨e1, e2, fun s' b hb => hb.elim (fun h => .inr h.2) .inl, fun b hb => hb.elim .inl (fun h => .inr h.1)⟩
  · have ho : openAV s x = (x, []) := by
      cases x <;> first | rfl | skip
      rename_i own sz es
      cases own
      · rfl
      · exact absurd ⟨sz, es, rfl⟩ hx
    rw [ho]
    refine ⟨c, F, h, ?_, Grow.refl _ _ _⟩
    cases hX with
    | plain _ h1 _ => exact h1
    | nil => exact absurd ⟨_, _, rfl⟩ hx
    | own => exact absurd ⟨_, _, rfl⟩ hx

theorem adds_mem_ne {l : News} {s : Nat} (h : ∀ x ∈ l, x.1 ≠ s) : ∀ {σ : AS}, (σ.adds l).mem s = σ.mem s := by
  induction l with
  | nil => intro σ; rfl
  | cons x l ih =>
    intro σ
    obtain ⟨s', k⟩ := x
    simp only [AS.adds]
    rw [ih (fun y hy => h y (by simp [hy]))]
    have : s ≠ s' := fun e => h (s', k) (by simp) e.symm
    simp [AS.add, this]

theorem openAV_sites {s : Nat} {x : AV} : ∀ y ∈ (openAV s x).2, y.1 = s := by
  intro y hy
  unfold openAV at hy
  split at hy <;> simp at hy
  rw [hy]
theorem openL_sites : ∀ {xs : List AV} {s : Nat}, ∀ y ∈ (openL s xs).2, s ≤ y.1 ∧ y.1 < s + xs.length
  | [], s, y, hy => by simp [openL] at hy
  | x :: xs, s, y, hy => by
    simp only [openL, List.mem_append] at hy
    rcases hy with hy | hy
    · have := openAV_sites y hy; simp; omega
    · have := openL_sites y hy; simp; omega
theorem openL_length : ∀ {xs : List AV} {s : Nat}, (openL s xs).1.length = xs.length
  | [], _ => rfl
  | x :: xs, s => by simp [openL, openL_length]

theorem Fresh.left {m : Nat → Option Blk} {l1 l2 : News} (h : Fresh m (l1 ++ l2)) : Fresh m l1 := fun x hx => h x (by simp [hx])
theorem Fresh.right {l1 l2 : News} (h : Fresh σ.mem (l1 ++ l2)) (hd : ∀ x ∈ l1, ∀ y ∈ l2, x.1 ≠ y.1) : Fresh (σ.adds l1).mem l2 := fun y hy => by
  rw [adds_mem_ne fun x hx => hd x hx y hy]
  exact h y (by simp [hy])

theorem openL_ok : ∀ {xs : List AV} {vs : List Value} {σ : AS} {c : Ctx} {F : Nat → Nat → Prop} {s : Nat} {G : Nat → Prop}, H w0 L n σ a w c F → Spare w0 w c F G → Fresh σ.mem (openL s xs).2 → ROL c w G xs vs →
    ∃ c' F', H w0 L n (σ.adds (openL s xs).2) a w c' F' ∧ RL c' w (openL s xs).1 vs ∧ Grow c c' F F' G
  | [], [], σ, c, F, s, G, h, hG, hf, hX => ⟨c, F, h, trivial, Grow.refl _ _ _⟩
  | x :: xs, v :: vs, σ, c, F, s, G, h, hG, hf, ⟨F1, F2, h1, h2, h3, h4⟩ => by
    obtain ⟨c1, F', h5, h6, h7⟩ := openAV_ok (s := s) h (fun b hb => hG b ((h4 b).2 (.inl hb))) hf.left h1.1
    have hd : ∀ x' ∈ (openAV s x).2, ∀ y ∈ (openL (s + 1) xs).2, x'.1 ≠ y.1 := fun x' hx y hy => by
      have := openAV_sites x' hx; have := openL_sites y hy; omega
    have hG2 : Spare w0 w c1 F' F2 := Spare.mono (fun b hb => hG b ((h4 b).2 (.inr hb))) h7 (fun b hb hb1 => h3 b hb1 hb)
    obtain ⟨c2, F'', h8, h9, h10⟩ := openL_ok (s := s + 1) h5 hG2 (hf.right hd) (h2.mono h7.at_ h7.I (fun _ _ => rfl) (fun _ _ => rfl))
    refine ⟨c2, F'', ?_, ⟨⟨h6.mono h10.at_ h10.I (fun _ _ => rfl), h1.2⟩, h9⟩, h7.trans h10 (fun b hb => (h4 b).2 (.inl hb)) (fun b hb => (h4 b).2 (.inr hb))⟩
    simp only [openL, adds_append]
    exact h8

theorem openTs_sites : ∀ {ts : List (Bool × List AV)} {s : Nat}, ∀ y ∈ (openTs s ts).2, s ≤ y.1
  | [], s, y, hy => by simp [openTs] at hy
  | (b, xs) :: ts, s, y, hy => by
    simp only [openTs, List.mem_append] at hy
    rcases hy with hy | hy
    · exact (openL_sites y hy).1
    · have := openTs_sites y hy; omega

theorem openTs_ok : ∀ {ts : List (Bool × List AV)} {vs : List Value} {σ : AS} {c : Ctx} {F : Nat → Nat → Prop} {s : Nat} {G : Nat → Prop}, H w0 L n σ a w c F → Spare w0 w c F G → Fresh σ.mem (openTs s ts).2 → ROTs c w G ts vs →
    ∃ c' F', H w0 L n (σ.adds (openTs s ts).2) a w c' F' ∧ RTs c' w (openTs s ts).1 vs ∧ Grow c c' F F' G
  | [], [], σ, c, F, s, G, h, hG, hf, hX => ⟨c, F, h, trivial, Grow.refl _ _ _⟩
  | (false, [x]) :: ts, v :: vs, σ, c, F, s, G, h, hG, hf, ⟨F1, F2, h1, h2, h3, h4⟩ => by
    simp only [openTs, openL, List.append_nil, List.length_cons, List.length_nil, Nat.zero_add] at hf ⊢
    obtain ⟨c1, F', h5, h6, h7⟩ := openAV_ok (s := s) h (fun b hb => hG b ((h4 b).2 (.inl hb))) hf.left h1.1
    have hd : ∀ x' ∈ (openAV s x).2, ∀ y ∈ (openTs (s + 1) ts).2, x'.1 ≠ y.1 := fun x' hx y hy => by
      have := openAV_sites x' hx; have := openTs_sites y hy; omega
    have hG2 : Spare w0 w c1 F' F2 := Spare.mono (fun b hb => hG b ((h4 b).2 (.inr hb))) h7 (fun b hb hb1 => h3 b hb1 hb)
    obtain ⟨c2, F'', h8, h9, h10⟩ := openTs_ok (s := s + 1) h5 hG2 (hf.right hd) (h2.mono h7.at_ h7.I (fun _ _ => rfl) (fun _ _ => rfl))
    refine ⟨c2, F'', ?_, ⟨⟨h6.mono h10.at_ h10.I (fun _ _ => rfl), h1.2⟩, h9⟩, h7.trans h10 (fun b hb => (h4 b).2 (.inl hb)) (fun b hb => (h4 b).2 (.inr hb))⟩
    rw [adds_append]
    exact h8
  | (true, ys) :: ts, .agg us :: vs, σ, c, F, s, G, h, hG, hf, ⟨F1, F2, h1, h2, h3, h4⟩ => by
    simp only [openTs] at hf ⊢
    obtain ⟨c1, F', h5, h6, h7⟩ := openL_ok (s := s) h (fun b hb => hG b ((h4 b).2 (.inl hb))) hf.left h1
    have hd : ∀ x' ∈ (openL s ys).2, ∀ y ∈ (openTs (s + ys.length) ts).2, x'.1 ≠ y.1 := fun x' hx y hy => by
      have := openL_sites x' hx; have := openTs_sites y hy; omega
    have hG2 : Spare w0 w c1 F' F2 := Spare.mono (fun b hb => hG b ((h4 b).2 (.inr hb))) h7 (fun b hb hb1 => h3 b hb1 hb)
    obtain ⟨c2, F'', h8, h9, h10⟩ := openTs_ok (s := s + ys.length) h5 hG2 (hf.right hd) (h2.mono h7.at_ h7.I (fun _ _ => rfl) (fun _ _ => rfl))
    refine ⟨c2, F'', ?_, ⟨RL.mono h10.at_ h10.I (fun _ _ => rfl) h6, h9⟩, h7.trans h10 (fun b hb => (h4 b).2 (.inl hb)) (fun b hb => (h4 b).2 (.inr hb))⟩
    rw [adds_append]
    exact h8

theorem openT_ok (h : H w0 L n σ a w c F) {s : Nat} {t : T} {v : Value} {G : Nat → Prop} (hG : Spare w0 w c F G) (hf : Fresh σ.mem (openT s t).2) (hX : ROT' c w G t v) :
    Post w0 L n σ a (openT s t).2 (openT s t).1 v w := by
  cases t with
  | dead => cases v <;> exact hX.elim
  | one x =>
    obtain ⟨c', F', h1, h2, h3⟩ := openAV_ok (s := s) h hG hf hX.1
    exact ⟨c', F', h1, h2, hX.2⟩
  | agg xs =>
    cases v <;> try exact hX.elim
    obtain ⟨c', F', h1, h2, h3⟩ := openL_ok (s := s) h hG hf hX
    exact ⟨c', F', h1, h2⟩
  | tup ts =>
    cases v <;> try exact hX.elim
    obtain ⟨c', F', h1, h2, h3⟩ := openTs_ok (s := s) h hG hf hX
    exact ⟨c', F', h1, h2⟩

theorem RTL.append : ∀ {c : Ctx} {xs ys : List T} {vs us : List Value}, RTL c w xs vs → RTL c w ys us → RTL c w (xs ++ ys) (vs ++ us)
  | _, [], _, [], _, _, h => h
  | _, _ :: _, _, _ :: _, _, h, k => ⟨h.1, RTL.append h.2 k⟩
theorem RTL.lend (h : H w0 L n σ a w c F) {m : Nat → Option Blk} (hm : Sup σ m) : ∀ {ts us : List T} {vs : List Value}, RTL c w ts vs → LendTs m ts us → RTL (c0 (lentI0 c F (oldB w0 L))) w us vs
  | [], [], [], _, _ => trivial
  | _ :: _, _ :: _, _ :: _, hX, hl => ⟨lendT_ok h hm hX.1 hl.1, RTL.lend h hm hX.2 hl.2⟩

theorem opCall_ok (h : H w0 L n σ a w c F) {m : Nat → Option Blk} (hm : Sup σ m) {site : Nat} {f : T} {ts : List T} {X : Value} {vs : List Value} (hX : RT c w f X) (hts : RTL c w ts vs) (hk : opCall P m K site f ts) :
    ∃ v news, K v news ∧ (Fresh σ.mem news → ∃ g cs, X = .func (.func g) #[] cs ∧ Callable P g ∧ Calls P g (vs.toArray ++ cs) w fun e w' => ∃ V, e = .returned V ∧ Post w0 L n σ a news v V w') := by
  unfold opCall at hk
  split at hk
  case h_2 => exact hk.elim
  rename_i g caps
  obtain ⟨us, r, hfun, hlend, hk⟩ := hk
  refine ⟨_, _, hk, fun hf => ?_⟩
  obtain ⟨hX, _⟩ := hX
  cases hX with | @fn _ _ cs a1 a0 a2 =>
  have hcaps : RTL c w (caps.map T.one) cs.toList := by
    have key : ∀ (xs : List AV) (us : List Value), xs.length = us.length → (∀ (k : Nat) (x : AV) (v : Value), xs[k]? = some x → us[k]? = some v → R c w x v) → (∀ v ∈ us, v.oneCell' = true) → RTL c w (xs.map T.one) us := by
      intro xs
      induction xs with
      | nil => intro us hl _ _; cases us with | nil => trivial | cons => simp at hl
      | cons x xs ih =>
        intro us hl hr ho
        cases us with
        | nil => simp at hl
        | cons u us => exact ⟨⟨hr 0 x u rfl rfl, ho u (by simp)⟩, ih us (by simpa using hl) (fun k x v hx hv => hr (k + 1) x v (by simpa using hx) (by simpa using hv)) (fun v hv => ho v (by simp [hv]))⟩
    exact key caps cs.toList (by simpa using a1.symm) (fun k x v hx hv => a2 k x v hx (by simpa using hv)) a0
  refine ⟨g, cs, rfl, hfun.1, ?_⟩
  have hargs := hts.append hcaps
  have fin : ∀ w' (G : Nat → Prop) v, Below w.heap.size w w' → ROT' c w' G r v → (∀ k, G k → w.heap.size ≤ k ∧ k < w'.heap.size) → Post w0 L n σ a (openT site r).2 (openT site r).1 v w' := fun w' G v hb hr hG => by
    refine openT_ok (h.world hb) (fun b hb' => ?_) hf hr
    have := hG b hb'
    exact ⟨Nat.le_trans h.keeps.size this.1, this.2, fun s hs => by have := (h.new s b hs).2; omega, fun hI => by have := h.imm b hI; omega⟩
  have := hfun.2.2 w (lentI0 c F (oldB w0 L)) (vs.toArray ++ cs) (fun b hb => by
    rcases hb with hb | ⟨s, hb⟩ | hb
    · exact h.imm b hb
    · exact (h.new s b hb).2
    · exact Nat.lt_of_lt_of_le hb.1 h.keeps.size) (by simpa using RTL.lend h hm hargs hlend)
  refine this.mono ?_
  rintro e w' ⟨v, G, rfl, hr, hG, hb⟩
  exact ⟨v, rfl, fin w' G v hb (hr.nb hfun.2.1) hG⟩
end
end Go.Proofs.Ytlijeincckbdaaa
