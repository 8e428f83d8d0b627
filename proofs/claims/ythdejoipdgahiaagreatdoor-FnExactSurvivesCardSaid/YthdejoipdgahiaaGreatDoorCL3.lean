/- Texts of the proof: an abstract machine for Go functions, contracts of the program's functions, and the row. -/
import Derived.Test.YthdejoipdgahiaaGreatDoorCL2
import Derived.Shelf.Strings.Repeat
import Derived.Test.YthdejoipdgahiaaGreatDoorCL1
import Derived.Shelf.Strings.OnBuilder
import Derived.Laws.Bits64
import Derived.Laws.BitsLemmas
namespace Go.Proofs.YthdejoipdgahiaaGreatDoor
open Go.RowKit
set_option linter.unusedSimpArgs false
set_option linter.unusedVariables false
set_option maxHeartbeats 2000000

section
variable {P : Program} {w0 w : World} {L : Nat → Prop} {n : Nat} {σ : AS} {a : Act} {c : Ctx} {F : Nat → Nat → Prop} {E : Tab}

theorem H.setVar (h : H w0 L n σ a w c F) {w' : World} {s b : Nat} {k k' : Blk} (hs : σ.mem s = some k) (hat : c.at_ s = some (.var b)) (hFs : ∀ k, F s k ↔ k = b)
    (hw : Keeps (fun k => k = b) w w') (hk : BlkOk c w' (F s) s k') (hkp : k'.isArg = false := by rfl) : H w0 L n (σ.set s k') a w' c F := by
  have hnI : ¬ c.I b := (h.top_not_I (s := s) (b := b) (.inl hat)).2
  have hI : ∀ q, c.I q → w'.heap[q]? = w.heap[q]? := fun q hq => hw.block q (h.imm q hq) fun e => hnI (e ▸ hq)
  have hF : ∀ s', s' ≠ s → ∀ q, F s' q → w'.heap[q]? = w.heap[q]? := fun s' hne q hq => hw.block q (h.new s' q hq).2 fun e => hne (h.disj _ _ _ hq ((hFs q).2 e))
  refine ⟨h.keeps.step hw.os hw.tape hw.output hw.size (fun q hq hl => hw.block q (Nat.lt_of_lt_of_le hq h.keeps.size) fun e => ?_) hw.dr, h.size, h.defers, fun t => (h.tm t).mono (fun _ _ h => h) (fun _ h => h) hI, fun s' k1 hk1 => ?_, fun s' hs' => ?_, h.disj, fun s' q hq => ⟨(h.new s' q hq).1, Nat.lt_of_lt_of_le (h.new s' q hq).2 hw.size⟩, fun q hq => Nat.lt_of_lt_of_le (h.imm q hq) hw.size, h.inn, fun s' v x hs' => by
    by_cases e : s' = s
    · subst e; simp [AS.set] at hs'; subst hs'; cases hkp
    · simp [AS.set, e] at hs'; exact h.par s' v x hs', h.gl⟩
  · rcases (h.new s q ((hFs q).2 e)).1 with h1 | h1
    · omega
    · exact hl h1
  · by_cases e : s' = s
    · subst e
      simp [AS.set] at hk1
      subst hk1
      exact hk
    · simp [AS.set, e] at hk1
      exact (h.mem s' k1 hk1).mono (fun _ _ h => h) (fun _ h => h) hI (hF s' e)
  · have e : s' ≠ s := fun e => by subst e; simp [AS.set] at hs'
    simp [AS.set, e] at hs'
    exact h.dom s' hs'

def PtrF (P : Program) (f : FuncId) (pars : List (Value × AV)) (pre post : List Value) (args : List T) (r : T) : Prop :=
  Callable P f ∧ r.nb = true ∧ post.all (·.oneCell') = true ∧
  ∀ (w : World) (b : Nat) (C : Array Value) (e : TypeId) (fz : Nat × Nat) (vs : Array Value), w.heap[b]? = some (.cells C e fz) → Unfz 1 C fz → C.toList = pre →
    (∀ p ∈ pars, R ⟨fun _ => none, fun k => k < w.heap.size ∧ ¬ k = b⟩ w p.2 p.1) → GlW w (fun k => k < w.heap.size ∧ ¬ k = b) → RTL (c0 fun k => k < w.heap.size ∧ ¬ k = b) w args vs.toList →
    Calls P f ((Value.pointer (some ⟨b, 0, none⟩)) :: vs.toList).toArray w fun e w' => ∃ V G C' e' fz', e = .returned V ∧ ROT' (c0 fun _ => False) w' G r V ∧ (∀ k, G k → w.heap.size ≤ k ∧ k < w'.heap.size) ∧
      w'.heap[b]? = some (.cells C' e' fz') ∧ Unfz 1 C' fz' ∧ C'.toList = post ∧ Keeps (fun k => k = b) w w'

theorem ptr_ok {f : FuncId} {pars : List (Value × AV)} {pre post : List Value} {us : List T} {r : T} {x : Operand} {args : List Operand} {s : Nat} (site : Nat) (hf : PtrF P f pars pre post us r) (hx : σ.get x = .one (.ptr s 0)) (hs : σ.mem s = some (.var (pre.map .lit)))
    (hl : LendTs (σ.drop s).mem (args.map (σ.drop s).get) us) (hp : ∀ p ∈ pars, ∃ q, σ.mem q = some (.par p.1 p.2)) (hfr : Fresh (σ.set s (.var (post.map .lit))).mem (openT site r).2) :
    CallOk P f (x :: args) σ ((σ.set s (.var (post.map .lit))).adds (openT site r).2) (openT site r).1 := by
  refine ⟨hf.1, fun w0 L n a w ⟨c, F, h⟩ => ?_⟩
  obtain ⟨_, hnb, hone, hcall⟩ := hf
  have gx := h.get x
  rw [hx] at gx
  obtain ⟨gx, _⟩ := gx
  obtain ⟨b, C, e, fz, hat, hC, hfz, hR, hFb⟩ := h.mem s _ hs
  obtain ⟨hCv, _⟩ := RL.lits_eq hR
  generalize hX : a.eval x = X at gx
  cases gx with | @ptr _ _ b2 hat2 =>
  rw [hat] at hat2; cases hat2
  have hd := h.drop s
  have hb : b < w.heap.size := (h.new s b ((hFb b).2 rfl)).2
  have hbI : ¬ c.I b := (h.top_not_I (s := s) (b := b) (.inl hat)).2
  have hargs : RTL (c.del s) w (args.map (σ.drop s).get) (args.map a.eval) := by
    have : ∀ l : List Operand, RTL (c.del s) w (l.map (σ.drop s).get) (l.map a.eval) := by
      intro l
      induction l with
      | nil => trivial
      | cons x l ih => exact ⟨hd.get x, ih⟩
    exact this args
  have hlend := RTL.lend hd (Sup.refl _) hargs hl
  have hmono : ∀ {ts : List T} {vs : List Value}, RTL (c0 (lentI0 (c.del s) (fun s' b => s' ≠ s ∧ F s' b) (oldB w0 L))) w ts vs → RTL (c0 fun k => k < w.heap.size ∧ ¬ k = b) w ts vs := by
    have hsub : ∀ k, lentI0 (c.del s) (fun s' b => s' ≠ s ∧ F s' b) (oldB w0 L) k → k < w.heap.size ∧ ¬ k = b := fun k hk => by
      rcases hk with hk | ⟨s', hne, hk⟩ | hk
      · exact ⟨h.imm k hk, fun e => hbI (e ▸ hk)⟩
      · exact ⟨(h.new s' k hk).2, fun e => hne (h.disj _ _ _ hk ((hFb k).2 e))⟩
      · exact ⟨Nat.lt_of_lt_of_le hk.1 h.keeps.size, fun e => h.old_not hk ((hFb k).2 e)⟩
    intro ts
    induction ts with
    | nil => intro vs h; cases vs with | nil => trivial | cons => exact h.elim
    | cons t ts ih => intro vs h; cases vs with | nil => exact h.elim | cons v vs => exact ⟨RT.mono (c := c0 (lentI0 (c.del s) (fun s' b => s' ≠ s ∧ F s' b) (oldB w0 L))) (c' := c0 fun k => k < w.heap.size ∧ ¬ k = b) (fun _ _ h => h) hsub (fun _ _ => rfl) h.1, ih h.2⟩
  have hpars : ∀ p ∈ pars, R ⟨fun _ => none, fun k => k < w.heap.size ∧ ¬ k = b⟩ w p.2 p.1 := fun p hpm => by
    obtain ⟨q, hq⟩ := hp p hpm
    obtain ⟨a2, a3, _⟩ := h.par q _ _ hq
    exact R.free (c' := ⟨fun _ => none, fun k => k < w.heap.size ∧ ¬ k = b⟩) (fun k (hk : oldB w0 L k) => ⟨Nat.lt_of_lt_of_le hk.1 h.keeps.size, fun e => h.old_not hk ((hFb k).2 e)⟩) (fun k (hk : oldB w0 L k) => h.keeps.block k hk.1 hk.2) a3 a2
  have := hcall w b C e fz (args.map a.eval).toArray hC hfz hCv hpars (h.gl.mono (fun k hk => ⟨Nat.lt_of_lt_of_le hk.1 h.keeps.size, fun e => h.old_not hk ((hFb k).2 e)⟩) h.keeps.size fun k hk => h.keeps.block k hk.1 hk.2) (hmono (by simpa using hlend))
  rw [List.map_cons, hX]
  refine this.mono ?_
  rintro e1 w' ⟨V, G, C', e', fz', rfl, hr, hG, hC', hfz', hpost, hkeep⟩
  have hH : H w0 L n (σ.set s (.var (post.map .lit))) a w' c F := by
    refine h.setVar hs hat hFb hkeep ⟨b, C', e', fz', hat, hC', hfz', ?_, hFb⟩
    rw [hpost]
    exact RL.lits c w' post hone
  have hsp : Spare w0 w' c F G := fun k hk => by
    have := hG k hk
    exact ⟨Nat.le_trans h.keeps.size this.1, this.2, fun s' hs' => by have := (h.new s' k hs').2; omega, fun hI => by have := h.imm k hI; omega⟩
  obtain ⟨c', F', h1, h2⟩ := openT_ok hH (s := site) hsp hfr (hr.nb (c' := c) hnb)
  exact ⟨V, c', F', rfl, h1, h2⟩

def memP (b : Nat) (pars : List (Value × AV)) (pre : List Value) (s : Nat) : Option Blk :=
  match s with
  | 0 => some (.var (pre.map .lit))
  | s + 1 => match pars[s]? with
    | some p => some (.par p.1 p.2)
    | none => if s = 7 then some (.pin 0 (.var b)) else none
def finP (E : Tab) (b : Nat) (rs : List ResultVar) (post : List Value) (r : T) (σ : AS) : Prop :=
  fin E rs r (σ.drop 0) ∧ σ.mem 0 = some (.var (post.map .lit)) ∧ σ.mem 8 = some (.pin 0 (.var b))

theorem ptrf_of_vc (hE : E.ok P) {f : FuncId} {fn : Func} {x : Code} {pars : List (Value × AV)} {pre post : List Value} {args : List T} {r : T} (hmix : P.follows .mixedOrders = true) (hf : P.funcs[f]? = some fn) (hb : fn.body = some x) (hname : (fn.name == "runtime.NumGoroutine") = false)
    (hok : okCode E fn.ntmps x = true) (hlen : args.length + 1 ≤ fn.ntmps) (hnb : r.nb = true) (hone0 : pre.all (·.oneCell') = true) (hone : post.all (·.oneCell') = true) (hp7 : pars.length ≤ 7) (hpf : (pars.all fun p => p.2.isFree) = true)
    (h : ∀ b : Nat, vcCode P E x (finP E b fn.results.toList post r) (fun _ _ => False) (finP E b fn.results.toList post r) ⟨fun t => (T.one (.ptr 0 0) :: args).getD t .dead, memP b pars pre⟩) : PtrF P f pars pre post args r := by
  refine ⟨⟨fn, hf, by simp [hb], hname⟩, hnb, hone, fun w b C e fz vs hC hfz hpre hpars hgl hargs => ?_⟩
  have hbl : b < w.heap.size := by
    rcases Nat.lt_or_ge b w.heap.size with h1 | h1
    · exact h1
    · simp [Array.getElem?_eq_none h1] at hC
  let c : Ctx := ⟨fun s => if s = 0 then some (.var b) else if (memP b pars pre s).isSome then some .nil else none, fun k => k < w.heap.size ∧ ¬ k = b⟩
  let F : Nat → Nat → Prop := fun s k => s = 0 ∧ k = b
  have hlit : ∀ {vs : List Value} {c1 : Ctx}, RTL (c0 fun k => k < w.heap.size ∧ ¬ k = b) w args vs → RTL c w args vs := by
    intro vs _
    generalize args = ts
    induction ts generalizing vs with
    | nil => intro h; cases vs with | nil => trivial | cons => exact h.elim
    | cons t ts ih => intro h; cases vs with | nil => exact h.elim | cons v vs => exact ⟨RT.mono (c := c0 fun k => k < w.heap.size ∧ ¬ k = b) (c' := c) (fun _ _ h => by cases h) (fun _ h => h) (fun _ _ => rfl) h.1, ih h.2⟩
  have hall : RTL c w (T.one (.ptr 0 0) :: args) (Value.pointer (some ⟨b, 0, none⟩) :: vs.toList) := ⟨⟨.ptr rfl, rfl⟩, hlit (c1 := c) hargs⟩
  have hlen2 : ∀ {ts : List T} {us : List Value}, RTL c w ts us → us.length = ts.length := by
    intro ts
    induction ts with
    | nil => intro us h; cases us with | nil => rfl | cons => exact h.elim
    | cons t ts ih => intro us h; cases us with | nil => exact h.elim | cons u us => simp [ih h.2]
  have hvl := hlen2 hall
  have hat : ∀ {ts : List T} {us : List Value}, RTL c w ts us → ∀ t : Nat, RT c w (ts.getD t .dead) (us.getD t undef) := by
    intro ts
    induction ts with
    | nil => intro us h t; trivial
    | cons t ts ih =>
      intro us h k
      cases us with
      | nil => exact h.elim
      | cons u us =>
        cases k with
        | zero => exact h.1
        | succ k => exact ih h.2 k
  refine calls_of_wp hf hb ?_
  generalize hus : Value.pointer (some ⟨b, 0, none⟩) :: vs.toList = us at hall hvl
  have hH : H w (fun k => k = b) fn.ntmps ⟨fun t => (T.one (.ptr 0 0) :: args).getD t .dead, memP b pars pre⟩ { tmps := us.toArray ++ Array.replicate (fn.ntmps - us.toArray.size) undef, defers := [] } w c F := by
    refine { gl := hgl, keeps := ⟨rfl, rfl, rfl, Nat.le_refl _, fun _ _ _ => rfl, fun _ => Nat.le_refl _⟩, size := by simp at hvl ⊢; omega, defers := rfl, tm := fun t => ?_, mem := fun s k hk => ?_, dom := fun s hs => ?_, disj := fun s s' k h1 h2 => h1.1.trans h2.1.symm, new := fun s k hk => ⟨.inr hk.2, by rw [hk.2]; exact hbl⟩, imm := fun k hk => hk.1, inn := fun s k hk => ?_, par := fun s v y hk => ?_ }
    · have := hat hall t
      by_cases ht : t < us.length
      · rw [Array.getD_eq_getD_getElem?, Array.getElem?_append_left (by simpa using ht)]
        rw [List.getD_eq_getElem?_getD, List.getD_eq_getElem?_getD] at this
        simpa [List.getD_eq_getElem?_getD] using this
      · have e : (T.one (.ptr 0 0) :: args).getD t .dead = .dead := by rw [List.getD_eq_getElem?_getD, List.getElem?_eq_none (by omega)]; rfl
        show RT _ _ ((T.one (.ptr 0 0) :: args).getD t .dead) _
        rw [e]; trivial
    · replace hk : memP b pars pre s = some k := hk
      cases s with
      | zero =>
        simp only [memP, Option.some.injEq] at hk
        subst hk
        refine ⟨b, C, e, fz, rfl, hC, hfz, ?_, fun k => by simp [F]⟩
        rw [hpre]
        exact RL.lits c w pre hone0
      | succ s =>
        have hat0 : c.at_ (s + 1) = some .nil := by simp [c, hk]
        have hF0 : ∀ k, ¬ F (s + 1) k := fun k hk => by simp [F] at hk
        simp only [memP] at hk
        split at hk
        · cases hk; exact ⟨hat0, hF0⟩
        · split at hk <;> cases hk
          exact ⟨hat0, hF0, rfl⟩
    · replace hs : memP b pars pre s = none := hs
      have h0 : s ≠ 0 := fun e => by subst e; simp [memP] at hs
      exact ⟨by simp [c, hs, h0], fun k hk => h0 hk.1⟩
    · obtain ⟨rfl, rfl⟩ := hk
      exact ⟨fun h => absurd rfl h.2, fun h => absurd (.inl rfl) h⟩
    · replace hk : memP b pars pre s = some (.par v y) := hk
      cases s with
      | zero => simp [memP] at hk
      | succ s =>
        simp only [memP] at hk
        split at hk
        · rename_i p hp
          cases hk
          have hpm := List.mem_of_getElem? hp
          exact ⟨List.all_eq_true.1 hpf p hpm, hpars p hpm, fun k hk => hk⟩
        · split at hk <;> cases hk
  have done : ∀ σ' a' w', Holds w (fun k => k = b) fn.ntmps σ' a' w' → finP E b fn.results.toList post r σ' → a'.defers = [] ∧ ∃ V, (results fn a'.tmps).run P w' = .ok V w' ∧ ∃ V0 G C' e' fz', Ending.returned V = .returned V0 ∧ ROT' (c0 fun _ => False) w' G r V0 ∧ (∀ k, G k → w.heap.size ≤ k ∧ k < w'.heap.size) ∧
      w'.heap[b]? = some (.cells C' e' fz') ∧ Unfz 1 C' fz' ∧ C'.toList = post ∧ Keeps (fun k => k = b) w w' := by
    rintro σ' a' w' ⟨c', F', h'⟩ ⟨hf', hm0, hm8⟩
    obtain ⟨b', C', e', fz', hat', hC', hfz', hR', hFb⟩ := h'.mem 0 _ hm0
    have hpin := h'.mem 8 _ hm8
    obtain ⟨_, _, hpin⟩ := hpin
    rw [hat'] at hpin; cases hpin
    obtain ⟨V, h1, G, h2, h3⟩ := fin_ok hE (h'.drop 0) hf'
    refine ⟨h'.defers, V, h1, V, G, C', e', fz', rfl, h2.nb hnb, fun k hk => ?_, hC', hfz', (RL.lits_eq hR').1, h'.keeps⟩
    obtain ⟨s, hs0, hs⟩ := h3 k hk
    have := h'.new s k hs
    exact ⟨this.1.resolve_right (fun e => hs0 (h'.disj _ _ _ hs ((hFb k).2 e))), this.2⟩
  exact vc_ok hE hmix x (n := fn.ntmps) (w0 := w) (L := fun k => k = b) hok (fun σ' a' w' h1 h2 => done σ' a' w' h1 h2) (fun _ _ _ _ _ h => h.elim) (fun σ' a' w' h1 h2 => done σ' a' w' h1 h2) (h b) ⟨_, _, hH⟩

def memN (pars : List (Value × AV)) (s : Nat) : Option Blk := match pars[s]? with
  | some p => some (.par p.1 p.2)
  | none => none
end
end Go.Proofs.YthdejoipdgahiaaGreatDoor
namespace Go.Proofs.YthdejoipdgahiaaGreatDoor
open Go.RowKit
set_option linter.unusedSimpArgs false
set_option linter.unusedVariables false
set_option maxHeartbeats 2000000

def swp (a b k : Nat) : Nat := if k = a then b else if k = b then a else k
theorem swp_swp (a b k : Nat) : swp a b (swp a b k) = k := by
  unfold swp
  by_cases h1 : k = a
  · subst h1
    by_cases h2 : b = k <;> simp [h2]
  · by_cases h2 : k = b
    · subst h2; simp [h1]
    · simp [h1, h2]
theorem swp_inj {a b k l : Nat} (h : swp a b k = swp a b l) : k = l := by rw [← swp_swp a b k, h, swp_swp]
def AV.ren (a b : Nat) : AV → AV
  | .ptr s j => .ptr (swp a b s) j
  | .eptr s i j => .eptr (swp a b s) i j
  | .loc s o l => .loc (swp a b s) o l
  | .fn f [] => .fn f []
  | .fn _ _ => .dead
  | x => x
def T.ren (a b : Nat) : T → T
  | .one x => .one (x.ren a b)
  | .agg xs => .agg (xs.map (AV.ren a b))
  | .tup ts => .tup (ts.map fun t => (t.1, t.2.map (AV.ren a b)))
  | .dead => .dead
def Blk.ren (a b : Nat) : Blk → Blk
  | .var xs => .var (xs.map (AV.ren a b))
  | .row true sz es => .row true sz es
  | .row false sz es => .row false sz (es.map fun e => e.map (AV.ren a b))
  | .par v x => .par v x
  | .pin s i => .pin (swp a b s) i
  | .mapb m es => .mapb m es
def AS.ren (σ : AS) (a b : Nat) : AS := ⟨fun t => (σ.tm t).ren a b, fun s => (σ.mem (swp a b s)).map (Blk.ren a b)⟩
def Ctx.ren (c : Ctx) (a b : Nat) : Ctx := ⟨fun s => c.at_ (swp a b s), c.I⟩

section
variable {w0 w : World} {L : Nat → Prop} {n : Nat} {σ : AS} {a : Act} {c : Ctx} {F : Nat → Nat → Prop} {p q : Nat}

theorem R.ren {x : AV} {v : Value} (h : R c w x v) : R (c.ren p q) w (x.ren p q) v := by
  have hat : ∀ {s : Nat} {i : SI}, c.at_ s = some i → (c.ren p q).at_ (swp p q s) = some i := fun {s i} h => by
    show c.at_ (swp p q (swp p q s)) = some i; rw [swp_swp]; exact h
  cases x with
  | dead => exact .dead v
  | lit => cases h; exact .lit _
  | ptr s j => cases h with | ptr h => exact .ptr (hat h)
  | eptr s i j => cases h with | @eptr _ _ _ b cap sz h => exact .eptr (b := b) (cap := cap) (sz := sz) (hat h)
  | loc s o len => cases h with
    | loc h a b => exact .loc (hat h) a b
    | locnil h => exact .locnil (hat h)
  | row => exact R.free (c := c) (c' := c.ren p q) (fun _ h => h) (fun _ _ => rfl) h rfl
  | bptr => exact R.free (c := c) (c' := c.ren p q) (fun _ h => h) (fun _ _ => rfl) h rfl
  | nn => exact R.free (c := c) (c' := c.ren p q) (fun _ h => h) (fun _ _ => rfl) h rfl
  | fn f caps =>
    cases caps with
    | nil => cases h with | fn a1 a0 a2 => exact .fn a1 a0 (fun k x v hx => by simp at hx)
    | cons x l => exact .dead v
theorem RL.ren : ∀ {xs : List AV} {vs : List Value}, RL c w xs vs → RL (c.ren p q) w (xs.map (AV.ren p q)) vs
  | [], [], _ => trivial
  | _ :: _, _ :: _, h => ⟨⟨h.1.1.ren, h.1.2⟩, RL.ren h.2⟩
theorem RTs.ren : ∀ {ts : List (Bool × List AV)} {vs : List Value}, RTs c w ts vs → RTs (c.ren p q) w (ts.map fun t => (t.1, t.2.map (AV.ren p q))) vs
  | [], [], _ => trivial
  | (false, [x]) :: _, _ :: _, h => ⟨⟨h.1.1.ren, h.1.2⟩, RTs.ren h.2⟩
  | (true, _) :: _, .agg _ :: _, h => ⟨RL.ren h.1, RTs.ren h.2⟩
theorem RT.ren {t : T} {v : Value} (h : RT c w t v) : RT (c.ren p q) w (t.ren p q) v := by
  cases t with
  | dead => trivial
  | one x => exact ⟨h.1.ren, h.2⟩
  | agg xs => cases v <;> first | exact h.elim | exact RL.ren h
  | tup ts => cases v <;> first | exact h.elim | exact RTs.ren h
theorem ren_cell {x : AV} (h : x.isCell = true) : x.ren p q = x := by cases x <;> first | rfl | simp [AV.isCell] at h
theorem ren_notcell {x : AV} (h : x.isCell = false) : (x.ren p q).isCell = false := by
  cases x <;> first | rfl | (simp [AV.isCell] at h; done) | skip
  rename_i f caps
  cases caps <;> rfl
theorem RO.cell {x : AV} {v : Value} {G : Nat → Prop} (h : RO c w G x v) : x.isCell = true := by
  cases h with
  | plain h1 _ _ => cases x <;> first | rfl | simp [AV.isData] at h1
  | nil => rfl
  | own => rfl
theorem BlkOk.ren {F : Nat → Prop} {s : Nat} {k : Blk} (h : BlkOk c w F s k) : BlkOk (c.ren p q) w F (swp p q s) (k.ren p q) := by
  have hat : ∀ {s : Nat} {i : SI}, c.at_ s = some i → (c.ren p q).at_ (swp p q s) = some i := fun {s i} h => by
    show c.at_ (swp p q (swp p q s)) = some i; rw [swp_swp]; exact h
  cases k with
  | var xs =>
    obtain ⟨b, C, e, fz, a1, a2, a3, a4, a5⟩ := h
    exact ⟨b, C, e, fz, hat a1, a2, a3, a4.ren, a5⟩
  | row o sz es =>
    cases o with
    | true =>
      rcases h with ⟨a1, a2, a3⟩ | ⟨b, cap, a1, C, e, fz, G, b1, b2, b3, b4, b5, b6, b7, b8, b9, b10, b11, b12⟩
      · exact .inl ⟨hat a1, a2, a3⟩
      · exact .inr ⟨b, cap, hat a1, C, e, fz, G, b1, b2, b3, b4, b5, b6, b7, fun i j x v hx hv => .inl (RO.ctx (c := c) (c' := c.ren p q) (fun _ h => h) ((b8 i j x v hx hv).resolve_right (by simp))), b9, b10, b11, b12⟩
    | false =>
      rcases h with ⟨a1, rfl, a3⟩ | ⟨b, cap, a1, C, e, fz, G, b1, b2, b3, b4, b5, b6, b7, b8, b9, b10, b11, b12⟩
      · exact .inl ⟨hat a1, rfl, a3⟩
      · refine .inr ⟨b, cap, hat a1, C, e, fz, G, b1, b2, by simpa using b3, b4, b5, fun e he => ?_, fun i j x v hx hv => ?_, fun i j x v hx hv => ?_, b9, b10, fun i j k hg => ?_, b12⟩
        · obtain ⟨e', he', rfl⟩ := List.mem_map.1 he
          rw [List.length_map]; exact b6 e' he'
        · obtain ⟨y, hy, _⟩ := elt_map hx
          exact b7 i j y v hy hv
        · obtain ⟨y, hy, rfl⟩ := elt_map hx
          rcases b8 i j y v hy hv with h1 | ⟨h1, h2, h3, h4⟩
          · left
            rw [ren_cell h1.cell]
            exact RO.ctx (c := c) (c' := c.ren p q) (fun _ h => h) h1
          · exact .inr ⟨h1, h2, h3.ren, ren_notcell h4⟩
        · have := b11 i j k hg
          unfold elt at this ⊢
          cases he : es[i]? with
          | none => simp [he] at this
          | some e => simp [he] at this; simp [he, this]
  | par v x => exact ⟨hat h.1, h.2⟩
  | pin s2 i => exact ⟨hat h.1, h.2.1, hat h.2.2⟩
  | mapb b es => exact ⟨hat h.1, h.2⟩
theorem ren_par {k : Blk} {v : Value} {x : AV} (h : k.ren p q = .par v x) : k = .par v x := by
  cases k with
  | par => exact h
  | row o => cases o <;> cases h
  | _ => cases h

theorem weak_swap (p q : Nat) {τ : AS} (hw : Weak (σ.ren p q) τ) : Weak σ τ := by
  rintro w0 L n a w ⟨c, F, h⟩
  refine hw _ _ _ _ _ ⟨c.ren p q, fun s b => F (swp p q s) b, ?_⟩
  refine ⟨h.keeps, h.size, h.defers, fun t => (h.tm t).ren, fun s k hk => ?_, fun s hs => ?_, fun s s' b h1 h2 => swp_inj (h.disj _ _ _ h1 h2), fun s b hb => h.new _ b hb, h.imm, fun s b hb => ?_, fun s v x hk => ?_, h.gl⟩
  · simp only [AS.ren] at hk
    cases hm : σ.mem (swp p q s) with
    | none => rw [hm] at hk; cases hk
    | some k' =>
      rw [hm] at hk
      simp only [Option.map_some, Option.some.injEq] at hk
      subst hk
      have := (h.mem _ k' hm).ren (p := p) (q := q)
      rw [swp_swp] at this
      exact this
  · simp only [AS.ren] at hs
    cases hm : σ.mem (swp p q s) with
    | none => exact h.dom _ hm
    | some k' => rw [hm] at hs; cases hs
  · exact h.inn (swp p q s) b hb
  · simp only [AS.ren] at hk
    cases hm : σ.mem (swp p q s) with
    | none => rw [hm] at hk; cases hk
    | some k' =>
      rw [hm] at hk
      simp only [Option.map_some, Option.some.injEq] at hk
      have := ren_par hk
      subst this
      exact h.par _ v x hm
end
end Go.Proofs.YthdejoipdgahiaaGreatDoor
namespace Go.Proofs.YthdejoipdgahiaaGreatDoor
open Go.RowKit
set_option linter.unusedSimpArgs false
set_option linter.unusedVariables false
set_option maxHeartbeats 2000000
theorem close_lit {m : Nat → Option Blk} {v : Value} : closeAV m (.lit v) (.lit v) := by
  by_cases hv : v = .slice none 0 0
  · subst hv; exact .inl rfl
  · unfold closeAV
    split <;> first | (simp_all; done) | rfl
section
variable {P : Program} {w : World} {I : Nat → Prop}
theorem raw_of_vc {E : Tab} (hE : E.ok P) {f : FuncId} {fn : Func} {x : Code} {args : List T} {r : (Nat → Value) → T} (hmix : P.follows .mixedOrders = true) (hf : P.funcs[f]? = some fn) (hb : fn.body = some x) (hname : (fn.name == "runtime.NumGoroutine") = false)
    (hok : okCode E fn.ntmps x = true) (hlen : args.length ≤ fn.ntmps) (hnb : ∀ u, (r u).nb = true) (ha : (args.all fun t => match t with | .one _ => true | .agg _ => true | _ => false) = true)
    (h : ∀ u : Nat → Value, (∀ (s : Nat) (o : Bool) (sz : Nat) (es : List (List AV)), (flatTs args)[s]? = some (.row o sz es) → ∃ A cap, u s = .slice A es.length cap ∧ es.length ≤ cap) → vcCode P E x (fin E fn.results.toList (r u)) (fun _ _ => False) (fin E fn.results.toList (r u)) ⟨fun t => (litTs u 0 args).getD t .dead, parM u args⟩) :
    ∀ (w : World) (I : Nat → Prop) (vs : Array Value), (∀ b, I b → b < w.heap.size) → GlW w I → RTL (c0 I) w args vs.toList → Calls P f vs w fun e w' => ∃ v F, e = .returned v ∧ ROT' (c0 I) w' F (r fun i => (flatV args vs.toList).getD i default) v ∧ (∀ k, F k → w.heap.size ≤ k ∧ k < w'.heap.size) ∧ Bel w.heap.size w w' := by
  intro w I vs hI hgl hargs
  let u : Nat → Value := fun i => (flatV args vs.toList).getD i default
  have hu : ∀ j v, (flatV args vs.toList)[j]? = some v → u j = v := fun j v hv => by simp [u, List.getD_eq_getElem?_getD, hv]
  let c : Ctx := ⟨fun s => if (parM u args s).isSome then some .nil else none, fun k => k < w.heap.size⟩
  have hargs' : RTL c w (litTs u 0 args) vs.toList := litTs_ok (c := c) hI ha hargs (fun j v hv => by rw [Nat.zero_add]; exact hu j v hv)
  have hll : ∀ {ts : List T} {i : Nat}, (litTs u i ts).length = ts.length := by
    intro ts
    induction ts with
    | nil => intro i; rfl
    | cons t ts ih => intro i; simp [litTs, ih]
  have hvl : vs.toList.length = args.length := by
    have : ∀ {ts : List T} {us : List Value}, RTL (c0 I) w ts us → us.length = ts.length := by
      intro ts
      induction ts with
      | nil => intro us h; cases us with | nil => rfl | cons => exact h.elim
      | cons t ts ih => intro us h; cases us with | nil => exact h.elim | cons u us => simp [ih h.2]
    exact this hargs
  have hat : ∀ {ts : List T} {us : List Value}, RTL c w ts us → ∀ t : Nat, RT c w (ts.getD t .dead) (us.getD t undef) := by
    intro ts
    induction ts with
    | nil => intro us h t; trivial
    | cons t ts ih =>
      intro us h k
      cases us with
      | nil => exact h.elim
      | cons u us =>
        cases k with
        | zero => exact h.1
        | succ k => exact ih h.2 k
  have hslice : ∀ (s : Nat) (o : Bool) (sz : Nat) (es : List (List AV)), (flatTs args)[s]? = some (.row o sz es) → ∃ A cap, u s = .slice A es.length cap ∧ es.length ≤ cap := fun s o sz es hg => by
    have hfl := flat_ok ha hargs
    have hi := (List.getElem?_eq_some_iff.1 hg).1
    have hl := RL.length hfl
    have hv : (flatV args vs.toList)[s]? = some ((flatV args vs.toList)[s]'(by omega)) := by simp
    have := (hfl.at hg hv).1
    rw [hu _ _ hv]
    generalize (flatV args vs.toList)[s]'(by omega) = v at this
    generalize hx : AV.row o sz es = x at this
    cases this with
    | row b o' vals a1 => cases hx; exact ⟨_, _, rfl, a1⟩
    | _ => cases hx
  refine calls_of_wp hf hb ?_
  have hH : H w (fun _ => False) fn.ntmps ⟨fun t => (litTs u 0 args).getD t .dead, parM u args⟩ { tmps := vs ++ Array.replicate (fn.ntmps - vs.size) undef, defers := [] } w c (fun _ _ => False) := by
    have hvs : vs.size = args.length := by simpa using hvl
    refine { gl := hgl.mono (fun b hb => ⟨hI b hb, fun h => h⟩) (Nat.le_refl _) (fun _ _ => rfl), keeps := ⟨rfl, rfl, rfl, Nat.le_refl _, fun _ _ _ => rfl, fun _ => Nat.le_refl _⟩, size := by simp; omega, defers := rfl, tm := fun t => ?_, mem := fun s k hk => ?_, dom := fun s hs => ?_, disj := fun _ _ _ h => h.elim, new := fun _ _ h => h.elim, imm := fun _ hk => hk, inn := fun _ _ h => h.elim, par := fun s v x hk => ?_ }
    · have := hat hargs' t
      by_cases ht : t < vs.size
      · have e : (vs ++ Array.replicate (fn.ntmps - vs.size) undef).getD t undef = vs.toList.getD t undef := by
          rw [Array.getD_eq_getD_getElem?, Array.getElem?_append_left ht]
          simp
        rw [e]; exact this
      · have e : (litTs u 0 args).getD t .dead = .dead := by rw [List.getD_eq_getElem?_getD, List.getElem?_eq_none (by rw [hll]; omega)]; rfl
        show RT _ _ ((litTs u 0 args).getD t .dead) _
        rw [e]; trivial
    · replace hk : parM u args s = some k := hk
      have hat0 : c.at_ s = some .nil := by simp [c, hk]
      unfold parM at hk
      split at hk
      · cases hk; exact ⟨hat0, fun _ h => h⟩
      · cases hk
    · replace hs : parM u args s = none := hs
      exact ⟨by simp [c, hs], fun _ h => h⟩
    · replace hk : parM u args s = some (.par v x) := hk
      unfold parM at hk
      split at hk
      · rename_i o sz es hg
        · cases hk
          refine ⟨rfl, ?_, fun k hk => hk.1⟩
          have hfl := flat_ok ha hargs
          have hi := (List.getElem?_eq_some_iff.1 hg).1
          have hl := RL.length hfl
          have hv : (flatV args vs.toList)[s]? = some ((flatV args vs.toList)[s]'(by omega)) := by simp
          have := (hfl.at hg hv).1
          rw [hu _ _ hv]
          exact R.free (c := c0 I) (fun b (hb : I b) => (show oldB w (fun _ => False) b from ⟨hI b hb, fun h => h⟩)) (fun _ _ => rfl) this rfl
      · cases hk
  have done : ∀ σ' a' w', Holds w (fun _ => False) fn.ntmps σ' a' w' → fin E fn.results.toList (r u) σ' → a'.defers = [] ∧ ∃ V, (results fn a'.tmps).run P w' = .ok V w' ∧ ∃ v F, Ending.returned V = .returned v ∧ ROT' (c0 I) w' F (r u) v ∧ (∀ k, F k → w.heap.size ≤ k ∧ k < w'.heap.size) ∧ Bel w.heap.size w w' := by
    rintro σ' a' w' ⟨c', F', h'⟩ hf'
    obtain ⟨V, h1, G, h2, h3⟩ := fin_ok hE h' hf'
    refine ⟨h'.defers, V, h1, V, G, rfl, h2.nb (hnb u), fun k hk => ?_, ⟨h'.keeps.os, h'.keeps.tape, h'.keeps.output, h'.keeps.size, fun k hk => h'.keeps.block k hk (fun h => h), h'.keeps.dr⟩⟩
    obtain ⟨s, hs⟩ := h3 k hk
    have := h'.new s k hs
    exact ⟨this.1.resolve_right (fun h => h), this.2⟩
  exact vc_ok hE hmix x (n := fn.ntmps) (w0 := w) (L := fun _ => False) hok (fun σ' a' w' h1 h2 => done σ' a' w' h1 h2) (fun _ _ _ _ _ h => h.elim) (fun σ' a' w' h1 h2 => done σ' a' w' h1 h2) (h u hslice) ⟨_, _, hH⟩

def FunId (P : Program) (f : FuncId) (args : List T) (j : Nat) : Prop :=
  Callable P f ∧ ∀ (w : World) (I : Nat → Prop) (vs : Array Value), (∀ b, I b → b < w.heap.size) → GlW w I → RTL (c0 I) w args vs.toList → Calls P f vs w fun e w' => e = .returned (vs.toList.getD j default) ∧ Bel w.heap.size w w'
theorem flatV_one : ∀ {ts : List T} {us : List Value}, (ts.all fun t => match t with | .one _ => true | _ => false) = true → us.length = ts.length → flatV ts us = us
  | [], [], _, _ => rfl
  | [], _ :: _, _, h => by simp at h
  | _ :: _, [], _, h => by simp at h
  | t :: ts, u :: us, h, hl => by
    simp only [List.all_cons, Bool.and_eq_true] at h
    cases t <;> first | (have := h.1; cases this; done) | skip
    simp only [flatV, flatV_one h.2 (by simpa using hl)]
theorem id_of_vc {E : Tab} (hE : E.ok P) {f : FuncId} {fn : Func} {x : Code} {args : List T} (j : Nat) (hmix : P.follows .mixedOrders = true) (hf : P.funcs[f]? = some fn) (hb : fn.body = some x) (hname : (fn.name == "runtime.NumGoroutine") = false)
    (hok : okCode E fn.ntmps x = true) (hlen : args.length ≤ fn.ntmps) (ha : (args.all fun t => match t with | .one _ => true | _ => false) = true)
    (h : ∀ u : Nat → Value, (∀ (s : Nat) (o : Bool) (sz : Nat) (es : List (List AV)), (flatTs args)[s]? = some (.row o sz es) → ∃ A cap, u s = .slice A es.length cap ∧ es.length ≤ cap) → vcCode P E x (fin E fn.results.toList (.one (.lit (u j)))) (fun _ _ => False) (fin E fn.results.toList (.one (.lit (u j)))) ⟨fun t => (litTs u 0 args).getD t .dead, parM u args⟩) : FunId P f args j := by
  refine ⟨⟨fn, hf, by simp [hb], hname⟩, fun w I vs hI hgl hargs => ?_⟩
  have hl : vs.toList.length = args.length := by
    have : ∀ {ts : List T} {us : List Value}, RTL (c0 I) w ts us → us.length = ts.length := by
      intro ts
      induction ts with
      | nil => intro us h; cases us with | nil => rfl | cons => exact h.elim
      | cons t ts ih => intro us h; cases us with | nil => exact h.elim | cons u us => simp [ih h.2]
    exact this hargs
  have ha' : (args.all fun t => match t with | .one _ => true | .agg _ => true | _ => false) = true := by
    rw [List.all_eq_true] at ha ⊢
    intro t ht
    have := ha t ht
    cases t <;> first | rfl | (cases this; done)
  refine (raw_of_vc hE (r := fun u => .one (.lit (u j))) hmix hf hb hname hok hlen (fun _ => rfl) ha' h w I vs hI hgl hargs).mono ?_
  rintro e w' ⟨v, F, rfl, hv, _, hb⟩
  rw [flatV_one ha hl] at hv
  obtain ⟨hv, _⟩ := hv
  cases hv with
  | plain _ h _ => cases h; exact ⟨rfl, hb⟩
end
section
variable {P : Program} {w0 w : World} {L : Nat → Prop} {n : Nat} {σ : AS} {a : Act} {c : Ctx} {F : Nat → Nat → Prop}
theorem RTL.evals (h : H w0 L n σ a w c F) : ∀ l : List Operand, RTL c w (l.map σ.get) (l.map a.eval)
  | [] => trivial
  | x :: l => ⟨h.get x, RTL.evals h l⟩
theorem lent_lt (h : H w0 L n σ a w c F) (b : Nat) (hb : lentI0 c F (oldB w0 L) b) : b < w.heap.size := by
  rcases hb with hb | ⟨s, hb⟩ | hb
  · exact h.imm b hb
  · exact (h.new s b hb).2
  · exact Nat.lt_of_lt_of_le hb.1 h.keeps.size
theorem id_ok {f : FuncId} {us : List T} {j : Nat} {args : List Operand} {x : Operand} (hf : FunId P f us j) (hx : args[j]? = some x) (hl : LendTs σ.mem (args.map σ.get) us) : CallOk P f args σ σ (σ.get x) := by
  refine ⟨hf.1, fun w0 L n a w ⟨c, F, h⟩ => ?_⟩
  refine (hf.2 w (lentI0 c F (oldB w0 L)) (args.map a.eval).toArray (lent_lt h) h.glw (by simpa using RTL.lend h (Sup.refl σ) (RTL.evals h args) hl)).mono ?_
  rintro e w' ⟨rfl, hb⟩
  refine ⟨_, c, F, rfl, h.world hb, ?_⟩
  have e : ((args.map a.eval).toArray.toList).getD j default = a.eval x := by
    simp [List.getD_eq_getElem?_getD, List.getElem?_map, hx]
  rw [e]
  exact (h.world hb).get x
theorem fun_ok {f : FuncId} {us : List T} {r : T} {args : List Operand} (site : Nat) (hf : Fun1 P f us r) (hl : LendTs σ.mem (args.map σ.get) us) (hfr : Fresh σ.mem (openT site r).2) : CallOk P f args σ (σ.adds (openT site r).2) (openT site r).1 := by
  refine ⟨hf.1, fun w0 L n a w ⟨c, F, h⟩ => ?_⟩
  refine (hf.2.2 w (lentI0 c F (oldB w0 L)) (args.map a.eval).toArray (lent_lt h) h.glw (by simpa using RTL.lend h (Sup.refl σ) (RTL.evals h args) hl)).mono ?_
  rintro e w' ⟨v, G, rfl, hr, hG, hb⟩
  obtain ⟨c', F', h1, h2⟩ := openT_ok (s := site) (h.world hb) (fun b hb' => by
    have := hG b hb'
    exact ⟨Nat.le_trans h.keeps.size this.1, this.2, fun s hs => by have := (h.new s b hs).2; omega, fun hI => by have := h.imm b hI; omega⟩) hfr (hr.nb hf.2.1)
  exact ⟨v, c', F', rfl, h1, h2⟩
end
end Go.Proofs.YthdejoipdgahiaaGreatDoor
namespace Go.Proofs.YthdejoipdgahiaaGreatDoor
open Go.RowKit
set_option linter.unusedSimpArgs false
set_option linter.unusedVariables false
def codeOk (k m : Int) : Bool := decide (1 ≤ k) && decide (k ≤ 8) && decide (0 ≤ m) && decide (m ≤ 6)
def arrayOk (x : DArray) : Bool := codeOk x.k x.m && decide ((x.drives.length : Int) = x.k + x.m) && x.drives.all driveOk
def isTmp (s : ByteArray) : Bool := decide (2 ≤ s.size) && decide (s.extract 0 2 = ⟨#[116, 45]⟩)
theorem arrayOk_len {x : DArray} (h : arrayOk x = true) : x.drives.length ≤ 14 ∧ (∀ d ∈ x.drives, driveOk d = true) ∧ 1 ≤ x.k ∧ x.k ≤ 8 ∧ 0 ≤ x.m ∧ x.m ≤ 6 ∧ (x.drives.length : Int) = x.k + x.m := by
  simp only [arrayOk, codeOk, Bool.and_eq_true, decide_eq_true_eq, List.all_eq_true] at h
  obtain ⟨⟨⟨⟨⟨h1, h2⟩, h3⟩, h4⟩, h5⟩, h6⟩ := h
  exact ⟨by omega, h6, h1, h2, h3, h4, h5⟩
end Go.Proofs.YthdejoipdgahiaaGreatDoor
namespace Go.Proofs.YthdejoipdgahiaaGreatDoor
open Go.RowKit
set_option linter.unusedSimpArgs false
set_option linter.unusedVariables false
set_option maxRecDepth 100000
set_option maxHeartbeats 4000000
def begins (s p : ByteArray) : Bool := decide (p.size ≤ s.size) && decide (s.extract 0 p.size = p)
theorem hasPrefix2_c (s p : ByteArray) : Fun1 Tryz.prog 84 [.one (.lit (.string s)), .one (.lit (.string p))] (.one (.lit (.bool (begins s p)))) := by
  refine fun1_of_vc tb_ok mix (fn := Tryz.f84) Tryz.func84 rfl (by kernel_rfl) (by kernel_rfl) (by simp [Tryz.f84]) (by rfl) ?_
  (conv => whnf)
  (split <;> rename_i h <;> (try simp only [decide_eq_true_eq, decide_eq_false_iff_not, Bool.not_eq_true', Bool.not_eq_false', Bool.not_eq_true, Bool.not_eq_false, List.length_map] at h) <;> conv => whnf)
  · refine ⟨by decide, by simp, by simp; omega, _, rfl, ?_⟩; (conv => whnf)
    exact ⟨close_bool (by simp [begins]; omega), trivial⟩
  · exact ⟨close_bool (by simp [begins]; omega), trivial⟩
theorem hasPrefix_c (s p : ByteArray) : Fun1 Tryz.prog 53 [.one (.lit (.string s)), .one (.lit (.string p))] (.one (.lit (.bool (begins s p)))) := by
  refine fun1_of_vc tb_ok mix (fn := Tryz.f53) Tryz.func53 rfl (by kernel_rfl) (by kernel_rfl) (by simp [Tryz.f53]) (by rfl) ?_
  (conv => whnf)
  refine ⟨_, _, hasPrefix2_c s p, lendA, ?_⟩; (conv => whnf)
  exact (by repeat' (first | exact trivial | exact close_int rfl | exact close_str rfl | exact close_bool rfl | exact close_int (by omega) | exact close_row rfl rfl (by first | rfl | simp) (by first | rfl | simp) | exact close_nil (by first | rfl | simp) | exact rfl | apply And.intro | apply closeTs_cons rfl))
theorem codeSpec_c (k m : Int) : Fun1 Tryz.prog 38 [.one (.lit (.int .i64 k)), .one (.lit (.int .i64 m))] (.one (.lit (.bool (codeOk k m)))) := by
  refine fun1_of_vc tb_ok mix (fn := Tryz.f38) Tryz.func38 rfl (by kernel_rfl) (by kernel_rfl) (by simp [Tryz.f38]) (by rfl) ?_
  (conv => whnf)
  (repeat' (split <;> rename_i hb <;> (try simp only [decide_eq_true_eq, decide_eq_false_iff_not, Bool.not_eq_true', Bool.not_eq_false', Bool.not_eq_true, Bool.not_eq_false, List.length_map] at hb) <;> conv => whnf))
  all_goals exact ⟨close_bool (by simp [codeOk, *]), trivial⟩
theorem codeImpl_c (k m : Int) : Fun1 Tryz.prog 46 [.one (.lit (.int .i64 k)), .one (.lit (.int .i64 m))] (.one (.lit (.bool (codeOk k m)))) := by
  refine fun1_of_vc tb_ok mix (fn := Tryz.f46) Tryz.func46 rfl (by kernel_rfl) (by kernel_rfl) (by simp [Tryz.f46]) (by rfl) ?_
  (conv => whnf)
  refine ⟨_, _, within_c k 1 8, lendA, ?_⟩; (conv => whnf)
  (split <;> rename_i h <;> (try simp only [decide_eq_true_eq, decide_eq_false_iff_not, Bool.not_eq_true', Bool.not_eq_false', Bool.not_eq_true, Bool.not_eq_false, List.length_map] at h) <;> conv => whnf)
  · refine ⟨_, _, within_c m 0 6, lendA, ?_⟩; (conv => whnf)
    exact ⟨close_bool (by simp at h; simp [codeOk, h]), trivial⟩
  · exact ⟨close_bool (by simp at h; simp [codeOk]; omega), trivial⟩
theorem arrayRight1_c (d : DDrive) (hx : d.ok) (hu : usedN d.files ≤ 1000000000000) : Fun1 Tryz.prog 49 [.agg d.enc] (.one (.lit (.bool (!driveOk d)))) := by
  refine fun1_of_vc tb_ok mix (fn := Tryz.f49) Tryz.func49 rfl (by kernel_rfl) (by kernel_rfl) (by simp [Tryz.f49]) (by rfl) ?_
  (conv => whnf)
  refine ⟨_, _, driveImpl_c d hx hu, lendA, ?_⟩; (conv => whnf)
  exact (by repeat' (first | exact trivial | exact close_int rfl | exact close_str rfl | exact close_bool rfl | exact close_int (by omega) | exact close_row rfl rfl (by first | rfl | simp) (by first | rfl | simp) | exact close_nil (by first | rfl | simp) | exact rfl | apply And.intro | apply closeTs_cons rfl))
theorem indexDrive_c (l : List DDrive) (g : FuncId) (p : DDrive → Bool) (hl : l.length ≤ 4294967296) (hg : ∀ d ∈ l, Fun1 Tryz.prog g [.agg d.enc] (.one (.lit (.bool (p d))))) :
    Fun1 Tryz.prog 80 [.one (.row true 2 (l.map DDrive.enc)), .one (.fn g [])] (.one (.lit (.int .i64 (match l.findIdx? p with | some i => (i : Int) | none => -1)))) := by
  refine fun1_of_vc tb_ok mix (fn := Tryz.f80) Tryz.func80 rfl (by kernel_rfl) (by kernel_rfl) (by simp [Tryz.f80]) (by rfl) ?_
  (conv => whnf)
  refine ⟨LG (fun i : Nat => i ≤ l.length ∧ ∀ j (h : j < l.length), j < i → p l[j] = false) (fun i => l.length - i) (fun i => AS.of [(0, .one (.row true 2 (l.map DDrive.enc))), (1, .one (.fn g [])), (7, .one (.lit (.int .i64 (l.length : Nat)))), (8, .one (.lit (.int .i64 (i : Nat))))] []), lg_init 0 ⟨by omega, fun j h h' => by omega⟩ (weak_of allsA allsA rfl rfl), ?_⟩
  rintro σ k ⟨i, ⟨hi, hc⟩, rfl, rfl⟩
  refine ⟨_, Weak.refl _, ?_⟩
  (conv => whnf)
  (split <;> rename_i h <;> (try simp only [decide_eq_true_eq, decide_eq_false_iff_not, Bool.not_eq_true', Bool.not_eq_false', Bool.not_eq_true, Bool.not_eq_false, List.length_map] at h) <;> conv => whnf)
  · have hlt : i < l.length := by omega
    refine ⟨i, rfl, _, at_map hlt, ?_⟩; (conv => whnf)
    refine ⟨_, _, hg l[i] (List.getElem_mem hlt), lendA, ?_⟩; (conv => whnf)
    (split <;> rename_i h2 <;> (try simp only [decide_eq_true_eq, decide_eq_false_iff_not, Bool.not_eq_true', Bool.not_eq_false', Bool.not_eq_true, Bool.not_eq_false, List.length_map] at h2) <;> conv => whnf)
    · have : l.findIdx? p = some i := by
        rw [List.findIdx?_eq_some_iff_getElem]
        exact ⟨hlt, h2, fun j hj => by have := hc j (by omega) hj; simp [this]⟩
      rw [this]
      exact (by repeat' (first | exact trivial | exact close_int rfl | exact close_str rfl | exact close_bool rfl | exact close_int (by omega) | exact close_row rfl rfl (by first | rfl | simp) (by first | rfl | simp) | exact close_nil (by first | rfl | simp) | exact rfl | apply And.intro | apply closeTs_cons rfl))
    · (refine ⟨((i + 1 : Nat) : Int), by rw [← wrap64_id] <;> omega, ?_⟩; conv => whnf)
      exact lg_back (i + 1) ⟨by omega, fun j hj hji => by
        by_cases e : j = i
        · subst e; exact h2
        · exact hc j hj (by omega)⟩ (by (try dsimp only); omega) (weak_of allsA allsA rfl rfl)
  · have : l.findIdx? p = none := by
      rw [List.findIdx?_eq_none_iff]
      intro x hx
      obtain ⟨j, hj, rfl⟩ := List.getElem_of_mem hx
      exact hc j hj (by omega)
    rw [this]
    exact (by repeat' (first | exact trivial | exact close_int rfl | exact close_str rfl | exact close_bool rfl | exact close_int (by omega) | exact close_row rfl rfl (by first | rfl | simp) (by first | rfl | simp) | exact close_nil (by first | rfl | simp) | exact rfl | apply And.intro | apply closeTs_cons rfl))
theorem containsDrive_c (l : List DDrive) (g : FuncId) (p : DDrive → Bool) (hl : l.length ≤ 4294967296) (hg : ∀ d ∈ l, Fun1 Tryz.prog g [.agg d.enc] (.one (.lit (.bool (p d))))) :
    Fun1 Tryz.prog 48 [.one (.row true 2 (l.map DDrive.enc)), .one (.fn g [])] (.one (.lit (.bool (l.any p)))) := by
  refine fun1_of_vc tb_ok mix (fn := Tryz.f48) Tryz.func48 rfl (by kernel_rfl) (by kernel_rfl) (by simp [Tryz.f48]) (by rfl) ?_
  (conv => whnf)
  refine ⟨_, _, indexDrive_c l g p hl hg, lendA, ?_⟩; (conv => whnf)
  cases hq : l.findIdx? p with
  | some i =>
    have : l.any p = true := by
      rw [List.findIdx?_eq_some_iff_getElem] at hq
      obtain ⟨h1, h2, _⟩ := hq
      exact List.any_eq_true.2 ⟨_, List.getElem_mem h1, h2⟩
    rw [this]
    exact ⟨close_bool (by simp), trivial⟩
  | none =>
    have : l.any p = false := by
      rw [List.findIdx?_eq_none_iff] at hq
      rw [List.any_eq_false]; exact fun x hx => by simp [hq x hx]
    rw [this]
    exact ⟨close_bool (by simp), trivial⟩
theorem sizeDrive_c (l : List DDrive) : Fun1 Tryz.prog 47 [.one (.row true 2 (l.map DDrive.enc))] (.one (.lit (.int .i64 (l.length : Nat)))) := by
  refine fun1_of_vc tb_ok mix (fn := Tryz.f47) Tryz.func47 rfl (by kernel_rfl) (by kernel_rfl) (by simp [Tryz.f47]) (by rfl) ?_
  (conv => whnf)
  exact ⟨close_int (by simp), trivial⟩
theorem any_not {l : List DDrive} : (!l.any fun d => !driveOk d) = l.all driveOk := by
  induction l with
  | nil => rfl
  | cons x l ih => simp only [List.any_cons, List.all_cons, Bool.not_or, Bool.not_not, ih]
theorem arrayImpl_c (x : DArray) (hx : x.ok) (hu : ∀ d ∈ x.drives, usedN d.files ≤ 1000000000000) : Fun1 Tryz.prog 23 [.agg x.enc] (.one (.lit (.bool (arrayOk x)))) := by
  obtain ⟨hk, hm, hl, hd⟩ := hx
  unfold inI at hk hm
  refine fun1_of_vc tb_ok mix (fn := Tryz.f23) Tryz.func23 rfl (by kernel_rfl) (by kernel_rfl) (by simp [Tryz.f23]) (by rfl) ?_
  (conv => whnf)
  refine ⟨_, _, codeImpl_c x.k x.m, lendA, ?_⟩; (conv => whnf)
  (split <;> rename_i h <;> (try simp only [decide_eq_true_eq, decide_eq_false_iff_not, Bool.not_eq_true', Bool.not_eq_false', Bool.not_eq_true, Bool.not_eq_false, List.length_map] at h) <;> conv => whnf)
  · have hko : 1 ≤ x.k ∧ x.k ≤ 8 ∧ 0 ≤ x.m ∧ x.m ≤ 6 := by simp only [codeOk, Bool.and_eq_true, decide_eq_true_eq] at h; omega
    refine ⟨_, _, sizeDrive_c x.drives, lendA, ?_⟩; (conv => whnf)
    refine ⟨x.k + x.m, wrap64_id (by omega) (by omega), ?_⟩; (conv => whnf)
    (split <;> rename_i h2 <;> (try simp only [decide_eq_true_eq, decide_eq_false_iff_not, Bool.not_eq_true', Bool.not_eq_false', Bool.not_eq_true, Bool.not_eq_false, List.length_map] at h2) <;> conv => whnf)
    · refine ⟨_, _, containsDrive_c x.drives 49 (fun d => !driveOk d) hl (fun d hm => arrayRight1_c d (hd d hm) (hu d hm)), lendA, ?_⟩; (conv => whnf)
      exact ⟨close_bool (by simp only [arrayOk, h, h2, decide_true, Bool.true_and, any_not]), trivial⟩
    · exact ⟨close_bool (by simp [arrayOk, h2]), trivial⟩
  · exact ⟨close_bool (by simp [arrayOk, h]), trivial⟩
theorem arraySpec_c (x : DArray) (hx : x.ok) (hu : ∀ d ∈ x.drives, usedN d.files ≤ 1000000000000) : Fun1 Tryz.prog 17 [.agg x.enc] (.one (.lit (.bool (arrayOk x)))) := by
  obtain ⟨hk, hm, hl, hd⟩ := hx
  unfold inI at hk hm
  refine fun1_of_vc tb_ok mix (fn := Tryz.f17) Tryz.func17 rfl (by kernel_rfl) (by kernel_rfl) (by simp [Tryz.f17]) (by rfl) ?_
  (conv => whnf)
  refine ⟨_, _, codeSpec_c x.k x.m, lendA, ?_⟩; (conv => whnf)
  (split <;> rename_i h <;> (try simp only [decide_eq_true_eq, decide_eq_false_iff_not, Bool.not_eq_true', Bool.not_eq_false', Bool.not_eq_true, Bool.not_eq_false, List.length_map] at h) <;> conv => whnf)
  · exact ⟨close_bool (by simp [arrayOk, h]), trivial⟩
  have hko : 1 ≤ x.k ∧ x.k ≤ 8 ∧ 0 ≤ x.m ∧ x.m ≤ 6 := by simp only [codeOk, Bool.and_eq_true, decide_eq_true_eq] at h; omega
  refine ⟨x.k + x.m, wrap64_id (by omega) (by omega), ?_⟩; (conv => whnf)
  (split <;> rename_i h2 <;> (try simp only [decide_eq_true_eq, decide_eq_false_iff_not, Bool.not_eq_true', Bool.not_eq_false', Bool.not_eq_true, Bool.not_eq_false, List.length_map] at h2) <;> conv => whnf)
  · exact ⟨close_bool (by simp [arrayOk, h2]), trivial⟩
  have h2' : (x.drives.length : Int) = x.k + x.m := by first | exact h2 | simpa using h2
  refine ⟨LG (fun i : Nat => i ≤ x.drives.length ∧ ∀ j (h : j < x.drives.length), j < i → driveOk x.drives[j] = true) (fun i => x.drives.length - i) (fun i => AS.of [(1, .one (.ptr 16 0)), (3, .one (.lit (.int .i64 (i : Nat))))] [(16, .var x.enc)]), lg_init 0 ⟨by omega, fun j h h' => by omega⟩ (weak_of allsA allsA rfl rfl), ?_⟩
  rintro σ k ⟨i, ⟨hi, hc⟩, rfl, rfl⟩
  refine ⟨_, Weak.refl _, ?_⟩
  (conv => whnf)
  (split <;> rename_i h3 <;> (try simp only [decide_eq_true_eq, decide_eq_false_iff_not, Bool.not_eq_true', Bool.not_eq_false', Bool.not_eq_true, Bool.not_eq_false, List.length_map] at h3) <;> conv => whnf)
  · have hlt : i < x.drives.length := by omega
    refine ⟨i, rfl, _, at_map hlt, ?_⟩; (conv => whnf)
    refine ⟨_, _, driveSpec_c x.drives[i] (hd _ (List.getElem_mem hlt)) (hu _ (List.getElem_mem hlt)), lendA, ?_⟩; (conv => whnf)
    (split <;> rename_i h4 <;> (try simp only [decide_eq_true_eq, decide_eq_false_iff_not, Bool.not_eq_true', Bool.not_eq_false', Bool.not_eq_true, Bool.not_eq_false, List.length_map] at h4) <;> conv => whnf)
    · exact ⟨close_bool (by
        have : x.drives.all driveOk = false := by rw [List.all_eq_false]; exact ⟨_, List.getElem_mem hlt, by simp [h4]⟩
        simp [arrayOk, this]), trivial⟩
    · (refine ⟨((i + 1 : Nat) : Int), by rw [← wrap64_id] <;> omega, ?_⟩; conv => whnf)
      exact lg_back (i + 1) ⟨by omega, fun j hj hji => by
        by_cases e : j = i
        · subst e; exact h4
        · exact hc j hj (by omega)⟩ (by (try dsimp only); omega) (weak_of allsA allsA rfl rfl)
  · exact ⟨close_bool (by
      have : x.drives.all driveOk = true := by
        rw [List.all_eq_true]; intro d hd
        obtain ⟨j, hj, rfl⟩ := List.getElem_of_mem hd
        exact hc j hj (by omega)
      simp [arrayOk, this, h, h2']), trivial⟩
end Go.Proofs.YthdejoipdgahiaaGreatDoor
namespace Go.Proofs.YthdejoipdgahiaaGreatDoor
open Go.RowKit
set_option linter.unusedSimpArgs false
set_option linter.unusedVariables false
set_option maxRecDepth 100000
set_option maxHeartbeats 4000000
theorem sizeRows_c (es : List (List AV)) : Fun1 Tryz.prog 152 [.one (.row true 1 es)] (.one (vN es.length)) := by
  refine fun1_of_vc tb_ok mix (fn := Tryz.f152) Tryz.func152 rfl (by kernel_rfl) (by kernel_rfl) (by simp [Tryz.f152]) (by rfl) ?_
  (conv => whnf)
  exact ⟨close_int rfl, trivial⟩
theorem sizeInts_c (es : List (List AV)) : Fun1 Tryz.prog 137 [.one (.row true 1 es)] (.one (vN es.length)) := by
  refine fun1_of_vc tb_ok mix (fn := Tryz.f137) Tryz.func137 rfl (by kernel_rfl) (by kernel_rfl) (by simp [Tryz.f137]) (by rfl) ?_
  (conv => whnf)
  exact ⟨close_int rfl, trivial⟩
theorem unitImpl_c {i n : Nat} (h : i < n) (hn : n ≤ 1000000) : Fun1 Tryz.prog 125 [.one (vN i), .one (vN n)] (.one (.row true 1 ((unitR i n).map eNat))) := by
  refine fun1_of_vc tb_ok mix (fn := Tryz.f125) Tryz.func125 rfl (by kernel_rfl) (by kernel_rfl) (by simp [Tryz.f125]) (by show AV.nb (4 + 1) _ = true; exact nb_map (n := 4) (fun y => rfl) _) ?_
  (conv => whnf)
  refine ⟨n, rfl, Int.le_refl _, by omega, by simp [maxLen]; omega, ?_⟩; (conv => whnf)
  refine ⟨i, rfl, h, ?_⟩; (conv => whnf)
  refine ⟨[.lit (.int .i64 0)], by rw [Nat.zero_add, List.getElem?_replicate, if_pos h]; rfl, ?_⟩; (conv => whnf)
  refine ⟨_, rfl, ?_⟩; (conv => whnf)
  exact ⟨close_row rfl rfl (by simp) (by simp [unitR, List.map_set, eNat, AV.bor]), trivial⟩
theorem matE_nb {r c : Nat} {cs : List Nat} : (T.agg (matE r c cs)).nb = true := by
  have : AV.nb (4 + 1) (.row true 1 (cs.map eNat)) = true := nb_map (n := 4) (fun y => rfl) _
  simp only [T.nb, matE, List.all_cons, List.all_nil, this]; rfl
theorem matrixOf_c (rs : List (List Nat)) (r0 : List Nat) (h0 : rs[0]? = some r0) (h1 : rs.length ≤ 4294967296) (h2 : rs.flatten.length ≤ 4294967296) : Fun1 Tryz.prog 127 [.one (.row true 1 (rs.map rN))] (.agg (matE rs.length r0.length rs.flatten)) := by
  refine fun1_of_vc tb_ok mix (fn := Tryz.f127) Tryz.func127 rfl (by kernel_rfl) (by kernel_rfl) (by simp [Tryz.f127]) (by exact matE_nb) ?_
  (conv => whnf)
  refine ⟨_, _, sizeRows_c (rs.map rN), lendA, ?_⟩; (conv => whnf)
  refine ⟨0, rfl, rN r0, by rw [List.getElem?_map, h0]; rfl, ?_⟩; (conv => whnf)
  refine ⟨_, _, sizeInts_c (r0.map eNat), lendA, ?_⟩; (conv => whnf)
  refine ⟨_, _, fun_ok 160 (concat_c rs h1 h2) lendA (fun x hx => by rw [List.mem_singleton.1 hx]; rfl), ?_⟩; (conv => whnf)
  exact ⟨close_int (by simp), close_int (by simp), close_row rfl rfl rfl rfl, trivial⟩
theorem codeN {k m : Nat} (hk : 1 ≤ k ∧ k ≤ 8) (hm : m ≤ 6) : codeOk (k : Int) (m : Int) = true := by simp [codeOk]; omega
theorem range_succ_map {α : Type} (f : Nat → α) (i : Nat) : (List.range (i + 1)).map f = (List.range i).map f ++ [f i] := by rw [List.range_succ, List.map_append]; rfl
theorem xor16 {a b : Nat} (ha : a < 16) (hb : b < 16) : a ^^^ b < 16 := Nat.xor_lt_two_pow (n := 4) ha hb
theorem cauchyImpl_c {k m : Nat} (hk : 1 ≤ k ∧ k ≤ 8) (hm : m ≤ 6) : Fun1 Tryz.prog 86 [.one (vN k), .one (vN m)] (.agg (matE (k + m) k (cauchyN k m).flatten)) := by
  have hrow : (cauchyN k m)[0]? = some (unitR 0 k) := by
    unfold cauchyN
    rw [List.getElem?_append_left (by simp; omega), List.getElem?_map, List.getElem?_range (by omega)]; rfl
  have hfl : (cauchyN k m).flatten.length = (k + m) * k := by rw [flat_len' (fun x hx => cauchyN_row x hx), cauchyN_len]
  have hfb : (k + m) * k ≤ 14 * 8 := Nat.mul_le_mul (by omega) (by omega)
  have hcM := matrixOf_c (cauchyN k m) (unitR 0 k) hrow (by rw [cauchyN_len]; omega) (by rw [hfl]; omega)
  rw [cauchyN_len, unitR_len] at hcM
  refine fun1_of_vc tb_ok mix (fn := Tryz.f86) Tryz.func86 rfl (by kernel_rfl) (by kernel_rfl) (by simp [Tryz.f86]) (by exact matE_nb) ?_
  (conv => whnf)
  refine ⟨LG (fun i : Nat => i ≤ k) (fun i => k - i) (fun i => AS.of [(0, .one (vN k)), (1, .one (vN m)), (4, .one (.ptr 64 0)), (5, .one (.loc 304 0 i)), (10, .one (vN k)), (11, .one (vN i))] [(64, .var [.lit (.int .i64 0), .lit (.int .i64 0), .lit (.slice none 0 0)]), (304, .row true 1 (((List.range i).map fun j => unitR j k).map rN))]),
    lg_init 0 (by omega) (weak_nil 5 304 1 rfl rfl (weak_of allsA allsA rfl rfl)), ?_⟩
  rintro σ j ⟨i, hi, rfl, rfl⟩
  refine ⟨_, Weak.refl _, ?_⟩
  (conv => whnf)
  (split <;> rename_i h <;> (try simp only [decide_eq_true_eq, decide_eq_false_iff_not, Bool.not_eq_true', Bool.not_eq_false', Bool.not_eq_true, Bool.not_eq_false, List.length_map] at h) <;> conv => whnf)
  · have hlt : i < k := by omega
    have hs := range_succ_map (fun j => unitR j k) i
    refine ⟨_, _, unitImpl_c hlt (by omega), lendA, ?_⟩; (conv => whnf)
    refine ⟨_, _, ⟨rfl, Nat.le_refl _, rfl, rfl⟩, ?_⟩; (conv => whnf)
    refine ⟨_, rfl, rfl, by simp, rfl, by simp [maxLen, chunk]; omega, by simp [chunk]; omega, ?_⟩; (conv => whnf)
    (refine ⟨((i + 1 : Nat) : Int), by rw [← wrap64_id] <;> omega, ?_⟩; conv => whnf)
    exact lg_back (i + 1) (by omega) (by (try dsimp only); omega) (weak_absorb 304 272 (((List.range i).map fun j => unitR j k).map rN) [] [] [] (es2 := (unitR i k).map eNat) (by decide) rfl rfl (cellRow_map (fun _ => rfl) _) rfl rfl rfl
      (weak_of (all_cons rfl (all_cons rfl (all_cons rfl (all_cons (eq_loc rfl (by simp [chunk])) (all_cons rfl (all_cons rfl all_nil)))))) (all_cons rfl (all_cons (eq_row rfl (by rw [hs, List.map_append]; rfl)) all_nil)) rfl rfl))
  · have : i = k := by omega
    subst this
    refine ⟨LG (fun q : Nat => q ≤ m) (fun q => m - q) (fun q => AS.of [(0, .one (vN i)), (4, .one (.ptr 64 0)), (5, .one (.loc 304 0 (i + q))), (21, .one (vN m)), (22, .one (vN q))] [(64, .var [.lit (.int .i64 0), .lit (.int .i64 0), .lit (.slice none 0 0)]), (304, .row true 1 ((cauchyN i q).map rN))]),
      lg_init 0 (by omega) (weak_of allsA (all_cons rfl (all_cons (eq_row rfl (by simp [cauchyN])) all_nil)) rfl rfl), ?_⟩
    rintro σ j ⟨q, hq, rfl, rfl⟩
    refine ⟨_, Weak.refl _, ?_⟩
    (conv => whnf)
    (split <;> rename_i h2 <;> (try simp only [decide_eq_true_eq, decide_eq_false_iff_not, Bool.not_eq_true', Bool.not_eq_false', Bool.not_eq_true, Bool.not_eq_false, List.length_map] at h2) <;> conv => whnf)
    · have hlq : q < m := by omega
      have hs : cauchyN i (q + 1) = cauchyN i q ++ [parR i q] := by unfold cauchyN; rw [range_succ_map, List.append_assoc]
      have hln := cauchyN_len i q
      refine ⟨LG (fun z : Nat => z ≤ i) (fun z => i - z) (fun z => AS.of [(0, .one (vN i)), (4, .one (.ptr 64 0)), (5, .one (.loc 304 0 (i + q))), (7, .one (vN q)), (8, .one (.loc 592 0 z)), (21, .one (vN m)), (22, .one (vN q)), (25, .one (vN i)), (26, .one (vN z))] [(64, .var [.lit (.int .i64 0), .lit (.int .i64 0), .lit (.slice none 0 0)]), (304, .row true 1 ((cauchyN i q).map rN)), (592, .row true 1 (((List.range z).map fun j => invN ((i + q) ^^^ j)).map eNat))]),
        lg_init 0 (by omega) (weak_nil 8 592 1 rfl rfl (weak_of allsA allsA rfl rfl)), ?_⟩
      rintro σ j ⟨z, hz, rfl, rfl⟩
      refine ⟨_, Weak.refl _, ?_⟩
      (conv => whnf)
      (split <;> rename_i h3 <;> (try simp only [decide_eq_true_eq, decide_eq_false_iff_not, Bool.not_eq_true', Bool.not_eq_false', Bool.not_eq_true, Bool.not_eq_false, List.length_map] at h3) <;> conv => whnf)
      · have hlz : z < i := by omega
        have hs2 := range_succ_map (fun j => invN ((i + q) ^^^ j)) z
        have hx : (i + q) ^^^ z < 16 := xor16 (by omega) (by omega)
        refine ⟨((i + q : Nat) : Int), by rw [← wrap64_id] <;> omega, ?_⟩; (conv => whnf)
        have hxx : bits .xor .i64 ((i + q : Nat) : Int) (z : Int) = (((i + q) ^^^ z : Nat) : Int) := xorN (by (try dsimp only); omega) (by (try dsimp only); omega)
        rw [hxx]
        refine ⟨_, _, invImpl_c (a := (i + q) ^^^ z) (by omega), lendA, ?_⟩; (conv => whnf)
        refine ⟨true, [eNat (invN ((i + q) ^^^ z))], ⟨rfl, by simp [chunk], rfl, rfl⟩, ?_⟩; (conv => whnf)
        refine ⟨_, laid_map (f := eNat) (fun _ => rfl) [invN ((i + q) ^^^ z)], rfl, by simp, rfl, by simp [maxLen] <;> omega, by simp <;> omega, ?_⟩; (conv => whnf)
        refine ⟨((z + 1 : Nat) : Int), by rw [← wrap64_id] <;> omega, ?_⟩; (conv => whnf)
        exact lg_back (z + 1) (by omega) (by (try dsimp only); omega) (weak_of (all_cons rfl (all_cons rfl (all_cons rfl (all_cons rfl (all_cons (eq_loc rfl (by simp)) (all_cons rfl (all_cons rfl (all_cons rfl (all_cons rfl all_nil))))))))) (all_cons rfl (all_cons rfl (all_cons (eq_row rfl (by rw [hs2, List.map_append])) all_nil))) rfl rfl)
      · have : z = i := by omega
        subst this
        refine ⟨_, _, ⟨rfl, Nat.le_refl _, rfl, rfl⟩, ?_⟩; (conv => whnf)
        refine ⟨_, rfl, rfl, by simp [hln], rfl, by simp [maxLen, chunk]; omega, by simp [chunk]; omega, ?_⟩; (conv => whnf)
        refine ⟨((q + 1 : Nat) : Int), by rw [← wrap64_id] <;> omega, ?_⟩; (conv => whnf)
        exact lg_back (q + 1) (by omega) (by (try dsimp only); omega) (weak_absorb 304 592 ((cauchyN z q).map rN) [] [] [] (es2 := (parR z q).map eNat) (by decide) (eq_row rfl (by simp [chunk, parR, AV.bor, AV.kill, laid, AV.isData])) rfl (cellRow_map (fun _ => rfl) _) rfl rfl rfl
          (weak_of (all_cons rfl (all_cons rfl (all_cons (eq_loc rfl (by simp [chunk, hln]; omega)) (all_cons rfl (all_cons rfl all_nil))))) (all_cons rfl (all_cons (eq_row rfl (by rw [hs, List.map_append]; rfl)) all_nil)) rfl rfl))
    · have : q = m := by omega
      subst this
      refine ⟨_, _, hcM, lendA, ?_⟩; (conv => whnf)
      exact ⟨close_int rfl, close_int rfl, close_row rfl rfl rfl rfl, trivial⟩
end Go.Proofs.YthdejoipdgahiaaGreatDoor
namespace Go.Proofs.YthdejoipdgahiaaGreatDoor
open Go.RowKit
set_option linter.unusedSimpArgs false
set_option linter.unusedVariables false
set_option maxRecDepth 100000
set_option maxHeartbeats 4000000
theorem unit3_c {n : Nat} (hn : n ≤ 16) : Fun1 Tryz.prog 115 [.one (vN n)] (.agg (matE n n ((List.range n).map fun j => unitR j n).flatten)) := by
  have hnn : n * n ≤ 16 * 16 := Nat.mul_le_mul hn hn
  refine fun1_of_vc tb_ok mix (fn := Tryz.f115) Tryz.func115 rfl (by kernel_rfl) (by kernel_rfl) (by simp [Tryz.f115]) (by exact matE_nb) ?_
  (conv => whnf)
  refine ⟨((n * n : Nat) : Int), by rw [← wrap64_id] <;> omega, ?_⟩; (conv => whnf)
  refine ⟨n * n, rfl, Int.le_refl _, by omega, by simp [maxLen]; omega, ?_⟩; (conv => whnf)
  refine ⟨LG (fun i : Nat => i ≤ n) (fun i => n - i) (fun i => AS.of [(0, .one (vN n)), (2, .one (.ptr 32 0)), (3, .one (.ptr 48 0)), (4, .one (vN i))] [(32, .var [.lit (.int .i64 0), .lit (.int .i64 0), .lit (.slice none 0 0)]), (48, .var [vN n, vN n, .loc 160 0 (n * n)]), (160, .row true 1 ((unitZ n i).map eNat))]),
    lg_init 0 (by omega) (weak_of allsA (all_cons rfl (all_cons rfl (all_cons (eq_row rfl (by simp [unitZ, eNat])) all_nil))) rfl rfl), ?_⟩
  rintro σ j ⟨i, hi, rfl, rfl⟩
  have hzl := unitZ_len hi
  refine ⟨_, Weak.refl _, ?_⟩
  (conv => whnf)
  (split <;> rename_i h <;> (try simp only [decide_eq_true_eq, decide_eq_false_iff_not, Bool.not_eq_true', Bool.not_eq_false', Bool.not_eq_true, Bool.not_eq_false, List.length_map] at h) <;> conv => whnf)
  · have hlt : i < n := by omega
    have hin : i * n + i < n * n := by
      have : (i + 1) * n ≤ n * n := Nat.mul_le_mul_right _ hlt
      rw [Nat.add_mul] at this; omega
    refine ⟨((i * n : Nat) : Int), by rw [← wrap64_id] <;> omega, ?_⟩; (conv => whnf)
    refine ⟨((i * n + i : Nat) : Int), by rw [← wrap64_id] <;> omega, ?_⟩; (conv => whnf)
    refine ⟨i * n + i, rfl, hin, ?_⟩; (conv => whnf)
    refine ⟨_, at_map0 (by rw [hzl]; exact hin), ?_⟩; (conv => whnf)
    refine ⟨_, rfl, ?_⟩; (conv => whnf)
    (refine ⟨((i + 1 : Nat) : Int), by rw [← wrap64_id] <;> omega, ?_⟩; conv => whnf)
    exact lg_back (i + 1) (by omega) (by (try dsimp only); omega) (weak_of allsA (all_cons rfl (all_cons rfl (all_cons (eq_row rfl (by rw [← unitZ_set hlt, List.map_set, Nat.zero_add]; rfl)) all_nil))) rfl rfl)
  · have : i = n := by omega
    subst this
    exact ⟨close_int rfl, close_int rfl, close_row rfl rfl (by simp [hzl]) (by rw [unitZ_end]), trivial⟩
theorem matE_nb1 {r c : Nat} {cs : List Nat} {n : Int} : (T.agg (matE r c cs ++ [.lit (.int .i64 n)])).nb = true := by
  have : AV.nb (4 + 1) (.row true 1 (cs.map eNat)) = true := nb_map (n := 4) (fun y => rfl) _
  simp only [T.nb, matE, List.cons_append, List.nil_append, List.all_cons, List.all_nil, this]; rfl
theorem cauchySpec_c {k m : Nat} (hk : 1 ≤ k ∧ k ≤ 8) (hm : m ≤ 6) : Fun1 Tryz.prog 75 [.one (vN k), .one (vN m)] (.agg (matE (k + m) k (cauchyN k m).flatten ++ [.lit (.int .i64 0)])) := by
  have hfl : ∀ q, (cauchyN k q).flatten.length = (k + q) * k := fun q => by rw [flat_len' (fun x hx => cauchyN_row x hx), cauchyN_len]
  have hfb : ∀ q, q ≤ m → (k + q) * k ≤ 14 * 8 := fun q hq => Nat.mul_le_mul (by omega) (by omega)
  have hun : ((((List.range k).map fun j => unitR j k).flatten).map eNat).length = k * k := by rw [List.length_map, units_len]
  refine fun1_of_vc tb_ok mix (fn := Tryz.f75) Tryz.func75 rfl (by kernel_rfl) (by kernel_rfl) (by simp [Tryz.f75]) (by exact matE_nb1) ?_
  (conv => whnf)
  refine ⟨_, _, codeSpec_c k m, lendA, ?_⟩
  rw [codeN hk hm]
  (conv => whnf)
  refine ⟨_, _, unit3_c (by omega : k ≤ 16), lendA, ?_⟩; (conv => whnf)
  refine ⟨((k + m : Nat) : Int), by rw [← wrap64_id] <;> omega, ?_⟩; (conv => whnf)
  refine ⟨LG (fun q : Nat => q ≤ m) (fun q => m - q) (fun q => AS.of [(0, .one (vN k)), (1, .one (vN m)), (4, .one (.ptr 64 0)), (5, .one (.ptr 80 0)), (6, .one (vN q))] [(64, .var [.lit (.int .i64 0), .lit (.int .i64 0), .lit (.slice none 0 0), .lit (.int .i64 0)]), (80, .var [vN (k + m : Nat), vN k, .loc 226 0 ((k + q) * k)]), (226, .row true 1 ((cauchyN k q).flatten.map eNat))]),
    lg_init 0 (by omega) (weak_of allsA (all_cons rfl (all_cons (eq_var rfl (by show [vN (k + m : Nat), vN k, .loc 226 0 ((((List.range k).map fun j => unitR j k).flatten).map eNat).length] = _; rw [hun, Nat.add_zero])) (all_cons (eq_row rfl (by simp [cauchyN])) all_nil))) rfl rfl), ?_⟩
  rintro σ j ⟨q, hq, rfl, rfl⟩
  refine ⟨_, Weak.refl _, ?_⟩
  (conv => whnf)
  (split <;> rename_i h <;> (try simp only [decide_eq_true_eq, decide_eq_false_iff_not, Bool.not_eq_true', Bool.not_eq_false', Bool.not_eq_true, Bool.not_eq_false, List.length_map] at h) <;> conv => whnf)
  · have hlq : q < m := by omega
    have hs : cauchyN k (q + 1) = cauchyN k q ++ [parR k q] := by unfold cauchyN; rw [range_succ_map, List.append_assoc]
    have hfq := hfl q
    have hbq := hfb q hq
    have hbq1 := hfb (q + 1) hlq
    have e1 : (k + (q + 1)) * k = (k + q) * k + k := by rw [← Nat.add_assoc, Nat.add_mul (k + q) 1, Nat.one_mul]
    refine ⟨LG (fun z : Nat => z ≤ k) (fun z => k - z) (fun z => AS.of [(0, .one (vN k)), (1, .one (vN m)), (4, .one (.ptr 64 0)), (5, .one (.ptr 80 0)), (6, .one (vN q)), (7, .one (vN z))] [(64, .var [.lit (.int .i64 0), .lit (.int .i64 0), .lit (.slice none 0 0), .lit (.int .i64 0)]), (80, .var [vN (k + m : Nat), vN k, .loc 226 0 ((k + q) * k + z)]), (226, .row true 1 (((cauchyN k q).flatten ++ (List.range z).map fun j => invN ((k + q) ^^^ j)).map eNat))]),
      lg_init 0 (by omega) (weak_of allsA (all_cons rfl (all_cons rfl (all_cons (eq_row rfl (by simp)) all_nil))) rfl rfl), ?_⟩
    rintro σ j ⟨z, hz, rfl, rfl⟩
    have hll : ((cauchyN k q).flatten ++ (List.range z).map fun j => invN ((k + q) ^^^ j)).length = (k + q) * k + z := by rw [List.length_append, hfq, List.length_map, List.length_range]
    refine ⟨_, Weak.refl _, ?_⟩
    (conv => whnf)
    (split <;> rename_i h3 <;> (try simp only [decide_eq_true_eq, decide_eq_false_iff_not, Bool.not_eq_true', Bool.not_eq_false', Bool.not_eq_true, Bool.not_eq_false, List.length_map] at h3) <;> conv => whnf)
    · have hlz : z < k := by omega
      have hs2 := range_succ_map (fun j => invN ((k + q) ^^^ j)) z
      have hx : (k + q) ^^^ z < 16 := xor16 (by omega) (by omega)
      refine ⟨((k + q : Nat) : Int), by rw [← wrap64_id] <;> omega, ?_⟩; (conv => whnf)
      have hxx : bits .xor .i64 ((k + q : Nat) : Int) (z : Int) = (((k + q) ^^^ z : Nat) : Int) := xorN (by (try dsimp only); omega) (by (try dsimp only); omega)
      rw [hxx]
      refine ⟨_, _, fieldInv_c (a := (k + q) ^^^ z) (by omega), lendA, ?_⟩; (conv => whnf)
      refine ⟨true, [eNat (invN ((k + q) ^^^ z))], ⟨rfl, by simp [chunk], rfl, rfl⟩, ?_⟩; (conv => whnf)
      refine ⟨_, laid_map (f := eNat) (fun _ => rfl) [invN ((k + q) ^^^ z)], rfl, by rw [List.length_map, hll], rfl, by rw [List.length_map, hll]; simp only [maxLen, List.length_map, List.length_singleton]; omega, by rw [List.length_map, hll]; simp only [List.length_map, List.length_singleton]; omega, ?_⟩; (conv => whnf)
      refine ⟨((z + 1 : Nat) : Int), by rw [← wrap64_id] <;> omega, ?_⟩; (conv => whnf)
      exact lg_back (z + 1) (by omega) (by (try dsimp only); omega) (weak_of allsA (all_cons rfl (all_cons (eq_var rfl (by rw [List.length_map, hll]; rfl)) (all_cons (eq_row rfl (by rw [hs2, ← List.append_assoc, List.map_append (l₂ := [_])])) all_nil))) rfl rfl)
    · have : z = k := by omega
      subst this
      refine ⟨((q + 1 : Nat) : Int), by rw [← wrap64_id] <;> omega, ?_⟩; (conv => whnf)
      exact lg_back (q + 1) (by omega) (by (try dsimp only); omega) (weak_of allsA (all_cons rfl (all_cons (eq_var rfl (by rw [e1])) (all_cons (eq_row rfl (by rw [hs, List.flatten_append]; simp [parR])) all_nil))) rfl rfl)
  · have : q = m := by omega
    subst this
    exact ⟨close_int rfl, close_int rfl, close_row rfl rfl (by rw [List.length_map, hfl]) rfl, close_int rfl, trivial⟩
end Go.Proofs.YthdejoipdgahiaaGreatDoor
namespace Go.Proofs.YthdejoipdgahiaaGreatDoor
open Go.RowKit
set_option linter.unusedSimpArgs false
set_option linter.unusedVariables false
def byteAt (t : ByteArray) (p : Nat) : UInt8 := t.data.toList.getD p 0
def mulB (x : Nat) (b : UInt8) : UInt8 := UInt8.ofNat (mulN x b.toNat)
theorem mulB_zero (b : UInt8) : mulB 0 b = 0 := by unfold mulB; rw [zero_mulN b.toNat_lt]; rfl
def turnL (old : List UInt8) (f : Nat → UInt8) (p : Nat) : List UInt8 := (List.range p).map (fun q => old.getD q 0 ^^^ f q) ++ old.drop p
theorem turnL_len {old : List UInt8} {f : Nat → UInt8} {p : Nat} (h : p ≤ old.length) : (turnL old f p).length = old.length := by simp [turnL]; omega
theorem turnL_zero (old : List UInt8) (f : Nat → UInt8) : turnL old f 0 = old := by simp [turnL]
theorem turnL_get {old : List UInt8} {f : Nat → UInt8} {p : Nat} (h : p < old.length) : (turnL old f p)[p]? = some (old.getD p 0) := by
  unfold turnL
  rw [List.getElem?_append_right (by simp), List.length_map, List.length_range, Nat.sub_self, List.getElem?_drop, Nat.add_zero, List.getD_eq_getElem?_getD, List.getElem?_eq_getElem h]; rfl
theorem turnL_set {old : List UInt8} {f : Nat → UInt8} {p : Nat} (h : p < old.length) : (turnL old f p).set p (old.getD p 0 ^^^ f p) = turnL old f (p + 1) := by
  unfold turnL
  rw [List.set_append_right _ _ (by simp), List.length_map, List.length_range, Nat.sub_self, List.range_succ, List.map_append, List.append_assoc, List.drop_eq_getElem_cons h]
  rfl
theorem turnL_end (old : List UInt8) (f : Nat → UInt8) : turnL old f old.length = (List.range old.length).map fun q => old.getD q 0 ^^^ f q := by simp [turnL]
def lineN (cs : List Nat) (texts : List ByteArray) (L base : Nat) : Nat → List UInt8
  | 0 => List.replicate L 0
  | j + 1 => turnL (lineN cs texts L base j) (fun q => mulB (cs.getD (base + j) 0) (byteAt (texts.getD j .empty) q)) L
theorem lineN_len (cs : List Nat) (texts : List ByteArray) (L base : Nat) : ∀ j, (lineN cs texts L base j).length = L
  | 0 => by simp [lineN]
  | j + 1 => by have := lineN_len cs texts L base j; rw [lineN, turnL_len (by omega), this]
theorem turnL_skip {old : List UInt8} {f : Nat → UInt8} (hf : ∀ q, f q = 0) : turnL old f old.length = old := by
  rw [turnL_end]
  apply List.ext_getElem?
  intro i
  rw [List.getElem?_map]
  by_cases h : i < old.length
  · rw [List.getElem?_range h, List.getElem?_eq_getElem h]
    simp [hf, List.getD_eq_getElem?_getD, List.getElem?_eq_getElem h]
  · rw [List.getElem?_eq_none (by simp; omega), List.getElem?_eq_none (by omega)]; rfl
theorem lineN_skip {cs : List Nat} {texts : List ByteArray} {L base j : Nat} (h : cs.getD (base + j) 0 = 0) : lineN cs texts L base (j + 1) = lineN cs texts L base j := by
  have hl := lineN_len cs texts L base j
  rw [lineN]
  conv => lhs; rw [← hl]
  rw [hl]
  have := turnL_skip (old := lineN cs texts L base j) (f := fun q => mulB (cs.getD (base + j) 0) (byteAt (texts.getD j .empty) q)) (fun q => by rw [h]; exact mulB_zero _)
  rw [hl] at this
  exact this
def txtOf (l : List UInt8) : ByteArray := ⟨l.toArray⟩
def combN (r c : Nat) (cs : List Nat) (texts : List ByteArray) (L : Nat) : List ByteArray := (List.range r).map fun i => txtOf (lineN cs texts L (i * c) c)
theorem u8_xorI (x y : UInt8) : bits .xor .u8 (x.toNat : Int) (y.toNat : Int) = ((x ^^^ y).toNat : Int) := by
  have hx := x.toNat_lt
  have hy := y.toNat_lt
  show IntKind.u8.wrap ((BitVec.ofInt 8 (x.toNat : Int) ^^^ BitVec.ofInt 8 (y.toNat : Int)).toNat : Int) = _
  rw [BitVec.toNat_xor, ofIntN _ hx, ofIntN _ hy, UInt8.toNat_xor, IntKind.wrap_u8]
  have := Nat.xor_lt_two_pow (n := 8) hx hy
  omega
theorem u8_wrapI (n : Nat) : IntKind.u8.wrap (n : Int) = ((UInt8.ofNat n).toNat : Int) := by
  rw [IntKind.wrap_u8, UInt8.toNat_ofNat']; omega
end Go.Proofs.YthdejoipdgahiaaGreatDoor
namespace Go.Proofs.YthdejoipdgahiaaGreatDoor
open Go.RowKit
set_option linter.unusedSimpArgs false
set_option linter.unusedVariables false
def subV (sz : Nat) (v : Value) (lo k : Nat) : Value := match v with
  | .slice A n cap => .slice (if cap = lo then A else A.map (·.add (lo * sz))) k (cap - lo)
  | v => v
theorem R.sub {c : Ctx} {w : World} {o : Bool} {sz : Nat} {es : List (List AV)} {v : Value} (h : R c w (.row o sz es) v) {lo k : Nat} (hle : lo + k ≤ es.length) : R c w (.row false sz ((es.drop lo).take k)) (subV sz v lo k) := by
  cases h with
  | @row _ _ _ A cap b off vals a1 a2 a3 a4 a0 a5 a6 a7 =>
    have hel : ∀ (i j : Nat) (x : AV), elt ((es.drop lo).take k) i j = some x → elt es (lo + i) j = some x := fun i j x hx => by
      unfold elt at hx ⊢
      rw [List.getElem?_take] at hx
      split at hx
      · rwa [List.getElem?_drop] at hx
      · simp at hx
    have hlen : ((es.drop lo).take k).length = k := by rw [List.length_take, List.length_drop]; omega
    have key := R.row (c := c) (w := w) (own := false) (sz := sz) (es := (es.drop lo).take k) (A := if cap = lo then A else A.map (·.add (lo * sz))) (cap := cap - lo) b (off + lo * sz) (fun i j => vals (lo + i) j)
      (by rw [hlen]; omega) (by omega) (fun hlt => by
        rw [hlen] at hlt
        obtain ⟨rfl, hI⟩ := a3 (by omega)
        refine ⟨?_, hI⟩
        rw [if_neg (by omega)]
        exact congrArg some (Addr.add_lit b off _)) (fun e he => a4 e (List.mem_of_mem_drop (List.mem_of_mem_take he))) (fun i j x hx => a0 _ _ _ (hel i j x hx))
      (fun i j x hx => by have := a5 _ _ _ (hel i j x hx); rw [Nat.add_mul] at this; rw [← this]; congr 2; omega) (fun i j x hx => a6 _ _ _ (hel i j x hx)) (fun i j x hx => a7 _ _ _ (hel i j x hx))
    rw [hlen] at key
    exact key
def FunSub (P : Program) (f : FuncId) (args : List T) (j sz lo k : Nat) : Prop :=
  Callable P f ∧ ∀ (w : World) (I : Nat → Prop) (vs : Array Value), (∀ b, I b → b < w.heap.size) → GlW w I → RTL (c0 I) w args vs.toList → Calls P f vs w fun e w' => e = .returned (subV sz ((flatV args vs.toList).getD j default) lo k) ∧ Bel w.heap.size w w'
section
variable {P : Program}
theorem sub_of_vc {E : Tab} (hE : E.ok P) {f : FuncId} {fn : Func} {x : Code} {args : List T} (j sz lo k : Nat) (hmix : P.follows .mixedOrders = true) (hf : P.funcs[f]? = some fn) (hb : fn.body = some x) (hname : (fn.name == "runtime.NumGoroutine") = false)
    (hok : okCode E fn.ntmps x = true) (hlen : args.length ≤ fn.ntmps) (ha : (args.all fun t => match t with | .one _ => true | .agg _ => true | _ => false) = true)
    (h : ∀ u : Nat → Value, (∀ (s : Nat) (o : Bool) (sz : Nat) (es : List (List AV)), (flatTs args)[s]? = some (.row o sz es) → ∃ A cap, u s = .slice A es.length cap ∧ es.length ≤ cap) → vcCode P E x (fin E fn.results.toList (.one (.lit (subV sz (u j) lo k)))) (fun _ _ => False) (fin E fn.results.toList (.one (.lit (subV sz (u j) lo k)))) ⟨fun t => (litTs u 0 args).getD t .dead, parM u args⟩) : FunSub P f args j sz lo k := by
  refine ⟨⟨fn, hf, by simp [hb], hname⟩, fun w I vs hI hgl hargs => ?_⟩
  refine (raw_of_vc hE (r := fun u => .one (.lit (subV sz (u j) lo k))) hmix hf hb hname hok hlen (fun _ => rfl) ha h w I vs hI hgl hargs).mono ?_
  rintro e w' ⟨v, F, rfl, hv, _, hb⟩
  obtain ⟨hv, _⟩ := hv
  cases hv with
  | plain _ h _ => cases h; exact ⟨rfl, hb⟩
end
section
variable {P : Program} {w0 w : World} {L : Nat → Prop} {n : Nat} {σ : AS} {a : Act} {c : Ctx} {F : Nat → Nat → Prop}
theorem sub_ok {f : FuncId} {us : List T} {j sz lo k : Nat} {args : List Operand} {o : Bool} {es : List (List AV)} (hf : FunSub P f us j sz lo k) (hu : args.map σ.get = us) (ha : (us.all fun t => match t with | .one _ => true | .agg _ => true | _ => false) = true)
    (hl : LendTs σ.mem us us) (hj : (flatTs us)[j]? = some (.row o sz es)) (hle : lo + k ≤ es.length) : CallOk P f args σ σ (.one (.row false sz ((es.drop lo).take k))) := by
  subst hu
  refine ⟨hf.1, fun w0 L n a w ⟨c, F, h⟩ => ?_⟩
  have hR := RTL.evals h args
  refine (hf.2 w (lentI0 c F (oldB w0 L)) (args.map a.eval).toArray (lent_lt h) h.glw (by simpa using RTL.lend h (Sup.refl σ) hR hl)).mono ?_
  rintro e w' ⟨rfl, hb⟩
  refine ⟨_, c, F, rfl, h.world hb, ?_⟩
  have hfl := flat_ok ha (RTL.evals (h.world hb) args)
  have hi := (List.getElem?_eq_some_iff.1 hj).1
  have hlen := RL.length hfl
  have hv : (flatV (args.map σ.get) (args.map a.eval))[j]? = some ((flatV (args.map σ.get) (args.map a.eval))[j]'(by omega)) := by simp
  have := (hfl.at hj hv).1
  rw [show (args.map a.eval).toArray.toList = args.map a.eval by simp, List.getD_eq_getElem?_getD, hv, Option.getD_some]
  generalize (flatV (args.map σ.get) (args.map a.eval))[j]'(by omega) = v at this
  refine ⟨this.sub hle, ?_⟩
  generalize hx : AV.row o sz es = x at this
  cases this with
  | row b o' vals => rfl
  | _ => cases hx
end
end Go.Proofs.YthdejoipdgahiaaGreatDoor
namespace Go.Proofs.YthdejoipdgahiaaGreatDoor
open Go.RowKit
set_option linter.unusedSimpArgs false
set_option linter.unusedVariables false
set_option maxRecDepth 100000
set_option maxHeartbeats 4000000
theorem eq_rowT {t : T} {o : Bool} {sz : Nat} {es es' : List (List AV)} (h : t = .one (.row o sz es)) (e : es = es') : t = .one (.row o sz es') := by rw [h, e]
theorem rowSub_c {r c : Nat} {cs : List Nat} {o : Bool} {i : Nat} (hle : (i + 1) * c ≤ cs.length) (hl : cs.length ≤ 65536) (hi : i ≤ 65536) : FunSub Tryz.prog 123 [.agg [vN r, vN c, .row o 1 (cs.map eNat)], .one (vN i)] 2 1 (i * c) c := by
  have e : (i + 1) * c = i * c + c := by rw [Nat.add_mul, Nat.one_mul]
  refine sub_of_vc tb_ok 2 1 (i * c) c mix (fn := Tryz.f123) Tryz.func123 rfl (by kernel_rfl) (by kernel_rfl) (by simp [Tryz.f123]) rfl fun u hu => ?_
  obtain ⟨A, cap, h2, hcap⟩ := hu 2 o 1 (cs.map eNat) rfl
  rw [List.length_map] at h2 hcap
  have e1 : litTs u 0 [.agg [vN r, vN c, .row o 1 (cs.map eNat)], .one (vN i)] = [.agg [vN r, vN c, .lit (.slice A cs.length cap)], .one (vN i)] := by simp [litTs, litT, litL, litA, h2]
  rw [e1, h2]
  (conv => whnf)
  refine ⟨((i * c : Nat) : Int), by rw [← wrap64_id] <;> omega, ?_⟩; (conv => whnf)
  refine ⟨((i + 1 : Nat) : Int), by rw [← wrap64_id] <;> omega, ?_⟩; (conv => whnf)
  refine ⟨(((i + 1) * c : Nat) : Int), by rw [← wrap64_id] <;> omega, ?_⟩; (conv => whnf)
  refine ⟨by simp only [Option.getD]; omega, by simp only [Option.getD]; omega, by simp only [Option.getD]; omega, hcap, subV 1 (.slice A cs.length cap) (i * c) c, ?_, ?_⟩
  · show Value.slice _ c _ = Value.slice _ ((i + 1) * c - i * c) _
    rw [e, Nat.add_sub_cancel_left]; rfl
  (conv => whnf)
  exact ⟨close_lit, trivial⟩
theorem row_len {cs : List Nat} {r c i : Nat} (hcs : cs.length = r * c) (h : i < r) : (i + 1) * c ≤ cs.length := by rw [hcs]; exact Nat.mul_le_mul_right _ h
theorem row_get {cs : List Nat} {r c i j : Nat} (hcs : cs.length = r * c) (h : i < r) (hj : j < c) : ((cs.drop (i * c)).take c)[j]? = some (cs.getD (i * c + j) 0) ∧ cs.getD (i * c + j) 0 ∈ cs := by
  have := row_len hcs h
  rw [Nat.add_mul] at this
  have hlt : i * c + j < cs.length := by omega
  rw [List.getElem?_take, if_pos hj, List.getElem?_drop, List.getD_eq_getElem?_getD, List.getElem?_eq_getElem hlt]
  exact ⟨rfl, List.getElem_mem hlt⟩
theorem combImpl_c (r c L : Nat) (cs : List Nat) (texts : List ByteArray) (hr : r ≤ 255) (hc0 : c ≤ 255) (hcs : cs.length = r * c) (hlt : ∀ x ∈ cs, x < 256) (hc : c ≤ texts.length) (h0 : 0 < texts.length) (htl : texts.length ≤ 65536) (ht : ∀ t ∈ texts, t.size = L) (hL : L ≤ 4294967296) :
    Fun1 Tryz.prog 85 [.agg (matE r c cs), .one (.row true 1 (texts.map eStr))] (.one (.row true 1 ((combN r c cs texts L).map eStr))) := by
  have hcl : cs.length ≤ 65536 := by rw [hcs]; exact Nat.le_trans (Nat.mul_le_mul hr hc0) (by decide)
  have ht0 : (texts[0]).size = L := ht _ (List.getElem_mem h0)
  refine fun1_of_vc tb_ok mix (fn := Tryz.f85) Tryz.func85 rfl (by kernel_rfl) (by kernel_rfl) (by simp [Tryz.f85]) (by show AV.nb (4 + 1) _ = true; exact nb_map (n := 4) (fun y => rfl) _) ?_
  (conv => whnf)
  refine ⟨LG (fun i : Nat => i ≤ r) (fun i => r - i) (fun i => AS.of [(1, .one (.row true 1 (texts.map eStr))), (2, .one (.ptr 32 0)), (5, .one (.loc 944 0 i)), (12, .one (vN r)), (13, .one (vN i))] [(32, .var (matE r c cs)), (944, .row true 1 ((combN i c cs texts L).map eStr))]),
    lg_init 0 (by omega) (weak_nil 5 944 1 rfl rfl (weak_of allsA allsA rfl rfl)), ?_⟩
  rintro σ k ⟨i, hi, rfl, rfl⟩
  have hcn : (combN i c cs texts L).length = i := by simp [combN]
  refine ⟨_, Weak.refl _, ?_⟩
  (conv => whnf)
  (split <;> rename_i h <;> (try simp only [decide_eq_true_eq, decide_eq_false_iff_not, Bool.not_eq_true', Bool.not_eq_false', Bool.not_eq_true, Bool.not_eq_false, List.length_map] at h) <;> conv => whnf)
  · have hlr : i < r := by omega
    have hrl := row_len hcs hlr
    have hcs1 : combN (i + 1) c cs texts L = combN i c cs texts L ++ [txtOf (lineN cs texts L (i * c) c)] := range_succ_map _ i
    refine ⟨0, rfl, eStr texts[0], at_map h0, ?_⟩; (conv => whnf)
    refine ⟨L, by rw [ht0], Int.le_refl _, by omega, by simp [maxLen]; omega, ?_⟩; (conv => whnf)
    refine ⟨_, _, sub_ok (rowSub_c (r := r) (c := c) (cs := cs) (o := false) (i := i) hrl hcl (by omega)) rfl rfl lendA rfl (by rw [List.length_map]; rw [Nat.add_mul] at hrl; omega), ?_⟩; (conv => whnf)
    refine ⟨LG (fun j : Nat => j ≤ c) (fun j => c - j) (fun j => AS.of [(1, .one (.row true 1 (texts.map eStr))), (2, .one (.ptr 32 0)), (5, .one (.loc 944 0 i)), (7, .one (.loc 320 0 L)), (12, .one (vN r)), (13, .one (vN i)), (23, .one (.row false 1 (((cs.drop (i * c)).take c).map eNat))), (24, .one (vN c)), (25, .one (vN j))]
      [(32, .var (matE r c cs)), (944, .row true 1 ((combN i c cs texts L).map eStr)), (320, .row true 1 ((lineN cs texts L (i * c) j).map byteE))]), lg_init 0 (by omega) (weak_of (all_cons rfl (all_cons rfl (all_cons rfl (all_cons rfl (all_cons rfl (all_cons rfl (all_cons (eq_rowT rfl (by rw [List.map_take, List.map_drop])) (all_cons (eq_int rfl (by rw [Nat.add_mul] at hrl; simp; omega)) (all_cons rfl all_nil))))))))) (all_cons rfl (all_cons rfl (all_cons (eq_row rfl (by simp [lineN, byteE])) all_nil))) rfl rfl), ?_⟩
    rintro σ k ⟨j, hj, rfl, rfl⟩
    have hll := lineN_len cs texts L (i * c) j
    refine ⟨_, Weak.refl _, ?_⟩
    (conv => whnf)
    (split <;> rename_i h2 <;> (try simp only [decide_eq_true_eq, decide_eq_false_iff_not, Bool.not_eq_true', Bool.not_eq_false', Bool.not_eq_true, Bool.not_eq_false, List.length_map] at h2) <;> conv => whnf)
    · have hlj : j < c := by omega
      obtain ⟨hg, hgm⟩ := row_get hcs hlr hlj
      obtain ⟨x, hx⟩ : ∃ x, cs.getD (i * c + j) 0 = x := ⟨_, rfl⟩
      rw [hx] at hg hgm
      have hx256 := hlt x hgm
      refine ⟨j, rfl, eNat x, by rw [List.getElem?_map, hg]; rfl, ?_⟩; (conv => whnf)
      (split <;> rename_i h3 <;> (try simp only [decide_eq_true_eq, decide_eq_false_iff_not, Bool.not_eq_true', Bool.not_eq_false', Bool.not_eq_true, Bool.not_eq_false, List.length_map] at h3) <;> conv => whnf)
      · have hx0 : x = 0 := by omega
        (refine ⟨((j + 1 : Nat) : Int), by rw [← wrap64_id] <;> omega, ?_⟩; conv => whnf)
        exact lg_back (j + 1) (by omega) (by (try dsimp only); omega) (weak_of allsA (all_cons rfl (all_cons rfl (all_cons (eq_row rfl (by rw [lineN_skip (by rw [hx, hx0])])) all_nil))) rfl rfl)
      · have htj : (texts[j]'(by omega)).size = L := ht _ (List.getElem_mem _)
        have hfn : (fun q => mulB (cs.getD (i * c + j) 0) (byteAt (texts.getD j .empty) q)) = fun q => mulB x (byteAt (texts[j]'(by omega)) q) := by
          funext q; rw [hx, List.getD_eq_getElem?_getD, List.getElem?_eq_getElem (by omega : j < texts.length)]; rfl
        refine ⟨LG (fun p : Nat => p ≤ L) (fun p => L - p) (fun p => AS.of [(1, .one (.row true 1 (texts.map eStr))), (2, .one (.ptr 32 0)), (5, .one (.loc 944 0 i)), (7, .one (.loc 320 0 L)), (8, .one (vN j)), (9, .one (vN x)), (12, .one (vN r)), (13, .one (vN i)), (23, .one (.row false 1 (((cs.drop (i * c)).take c).map eNat))), (24, .one (vN c)), (25, .one (vN j)), (33, .one (vN L)), (34, .one (vN p))]
          [(32, .var (matE r c cs)), (944, .row true 1 ((combN i c cs texts L).map eStr)), (320, .row true 1 ((turnL (lineN cs texts L (i * c) j) (fun q => mulB (cs.getD (i * c + j) 0) (byteAt (texts.getD j .empty) q)) p).map byteE))]), lg_init 0 (by omega) (weak_of allsA (all_cons rfl (all_cons rfl (all_cons (eq_row rfl (by rw [turnL_zero])) all_nil))) rfl rfl), ?_⟩
        rw [hfn]
        rintro σ k ⟨p, hp, rfl, rfl⟩
        have htl2 := turnL_len (old := lineN cs texts L (i * c) j) (f := fun q => mulB x (byteAt (texts[j]'(by omega)) q)) (p := p) (by omega)
        refine ⟨_, Weak.refl _, ?_⟩
        (conv => whnf)
        (split <;> rename_i h4 <;> (try simp only [decide_eq_true_eq, decide_eq_false_iff_not, Bool.not_eq_true', Bool.not_eq_false', Bool.not_eq_true, Bool.not_eq_false, List.length_map] at h4) <;> conv => whnf)
        · have hlp : p < L := by omega
          have hgp := turnL_get (old := lineN cs texts L (i * c) j) (f := fun q => mulB x (byteAt (texts[j]'(by omega)) q)) (p := p) (by omega)
          have hst := turnL_set (old := lineN cs texts L (i * c) j) (f := fun q => mulB x (byteAt (texts[j]'(by omega)) q)) (p := p) (by omega)
          refine ⟨p, rfl, hlp, ?_⟩; (conv => whnf)
          refine ⟨byteE ((lineN cs texts L (i * c) j).getD p 0), by rw [Nat.zero_add, List.getElem?_map, hgp]; rfl, ?_⟩; (conv => whnf)
          refine ⟨j, rfl, eStr (texts[j]'(by omega)), at_map (by omega), ?_⟩; (conv => whnf)
          refine ⟨p, rfl, by omega, ?_⟩; (conv => whnf)
          refine ⟨((byteAt (texts[j]'(by omega)) p).toNat : Int), (wrapN (by have := (byteAt (texts[j]'(by omega)) p).toNat_lt; omega)).symm, ?_⟩; (conv => whnf)
          refine ⟨_, _, mulImpl_c hx256 (byteAt (texts[j]'(by omega)) p).toNat_lt, lendA, ?_⟩; (conv => whnf)
          refine ⟨_, (u8_wrapI _).symm, ?_⟩; (conv => whnf)
          refine ⟨p, rfl, hlp, ?_⟩; (conv => whnf)
          refine ⟨byteE ((lineN cs texts L (i * c) j).getD p 0), by rw [Nat.zero_add, List.getElem?_map, hgp]; rfl, ?_⟩; (conv => whnf)
          refine ⟨_, rfl, ?_⟩; (conv => whnf)
          (refine ⟨((p + 1 : Nat) : Int), by rw [← wrap64_id] <;> omega, ?_⟩; conv => whnf)
          exact lg_back (p + 1) (by omega) (by (try dsimp only); omega) (weak_of allsA (all_cons rfl (all_cons rfl (all_cons (eq_row rfl (by rw [← hst, List.map_set, Nat.zero_add]; exact congrArg (fun z => List.set _ p [AV.lit (.int .u8 z)]) (u8_xorI _ _))) all_nil))) rfl rfl)
        · have : p = L := by omega
          subst this
          (refine ⟨((j + 1 : Nat) : Int), by rw [← wrap64_id] <;> omega, ?_⟩; conv => whnf)
          exact lg_back (j + 1) (by omega) (by (try dsimp only); omega) (weak_of allsA (all_cons rfl (all_cons rfl (all_cons (eq_row rfl (by rw [lineN, hfn])) all_nil))) rfl rfl)
    · have : j = c := by omega
      subst this
      refine ⟨true, _, lineN cs texts L (i * j) j, ⟨rfl, by rw [List.length_map, hll]; omega, rfl, rfl⟩, by rw [List.drop_zero]; exact List.take_of_length_le (by rw [List.length_map, hll]; omega), ?_⟩; (conv => whnf)
      refine ⟨true, [eStr (txtOf (lineN cs texts L (i * j) j))], ⟨rfl, by simp [chunk], rfl, rfl⟩, ?_⟩; (conv => whnf)
      refine ⟨_, laid_map (f := eStr) (fun _ => rfl) [txtOf (lineN cs texts L (i * j) j)], rfl, by rw [List.length_map, hcn], rfl, by rw [List.length_map, hcn]; simp [maxLen]; omega, by rw [List.length_map, hcn]; simp; omega, ?_⟩; (conv => whnf)
      (refine ⟨((i + 1 : Nat) : Int), by rw [← wrap64_id] <;> omega, ?_⟩; conv => whnf)
      exact lg_back (i + 1) (by omega) (by (try dsimp only); omega) (weak_of (all_cons rfl (all_cons rfl (all_cons (eq_loc rfl (by rw [List.length_map, hcn]; rfl)) (all_cons rfl (all_cons rfl all_nil))))) (all_cons rfl (all_cons (eq_row rfl (by rw [hcs1, List.map_append])) all_nil)) rfl rfl)
  · have : i = r := by omega
    subst this
    exact ⟨close_row rfl rfl (by rw [List.length_map, hcn]) rfl, trivial⟩
end Go.Proofs.YthdejoipdgahiaaGreatDoor
namespace Go.Proofs.YthdejoipdgahiaaGreatDoor
open Go.RowKit
set_option linter.unusedSimpArgs false
set_option linter.unusedVariables false
set_option maxRecDepth 100000
set_option maxHeartbeats 4000000
theorem combSpec_c (r c L : Nat) (cs : List Nat) (texts : List ByteArray) (hr : r ≤ 255) (hc0 : c ≤ 255) (hcs : cs.length = r * c) (hlt : ∀ x ∈ cs, x < 256) (hc : c ≤ texts.length) (h0 : 0 < texts.length) (htl : texts.length ≤ 65536) (ht : ∀ t ∈ texts, t.size = L) (hL : L ≤ 4294967296) :
    Fun1 Tryz.prog 74 [.agg (matE r c cs), .one (.row true 1 (texts.map eStr))] (.one (.row true 1 ((combN r c cs texts L).map eStr))) := by
  have hcl : cs.length ≤ 65536 := by rw [hcs]; exact Nat.le_trans (Nat.mul_le_mul hr hc0) (by decide)
  have ht0 : (texts[0]).size = L := ht _ (List.getElem_mem h0)
  refine fun1_of_vc tb_ok mix (fn := Tryz.f74) Tryz.func74 rfl (by kernel_rfl) (by kernel_rfl) (by simp [Tryz.f74]) (by show AV.nb (4 + 1) _ = true; exact nb_map (n := 4) (fun y => rfl) _) ?_
  (conv => whnf)
  refine ⟨LG (fun i : Nat => i ≤ r) (fun i => r - i) (fun i => AS.of [(1, .one (.row true 1 (texts.map eStr))), (2, .one (.ptr 32 0)), (5, .one (.loc 176 0 i)), (6, .one (vN i))] [(32, .var (matE r c cs)), (176, .row true 1 ((combN i c cs texts L).map eStr))]),
    lg_init 0 (by omega) (weak_of allsA allsA rfl rfl), ?_⟩
  rintro σ k ⟨i, hi, rfl, rfl⟩
  have hcn : (combN i c cs texts L).length = i := by simp [combN]
  refine ⟨_, Weak.refl _, ?_⟩
  (conv => whnf)
  (split <;> rename_i h <;> (try simp only [decide_eq_true_eq, decide_eq_false_iff_not, Bool.not_eq_true', Bool.not_eq_false', Bool.not_eq_true, Bool.not_eq_false, List.length_map] at h) <;> conv => whnf)
  · have hlr : i < r := by omega
    have hrl := row_len hcs hlr
    have hcs1 : combN (i + 1) c cs texts L = combN i c cs texts L ++ [txtOf (lineN cs texts L (i * c) c)] := range_succ_map _ i
    refine ⟨0, rfl, eStr texts[0], at_map h0, ?_⟩; (conv => whnf)
    refine ⟨L, by rw [ht0], Int.le_refl _, by omega, by simp [maxLen]; omega, ?_⟩; (conv => whnf)
    refine ⟨LG (fun j : Nat => j ≤ c) (fun j => c - j) (fun j => AS.of [(1, .one (.row true 1 (texts.map eStr))), (2, .one (.ptr 32 0)), (5, .one (.loc 176 0 i)), (6, .one (vN i)), (7, .one (.loc 352 0 L)), (8, .one (vN j))]
      [(32, .var (matE r c cs)), (176, .row true 1 ((combN i c cs texts L).map eStr)), (352, .row true 1 ((lineN cs texts L (i * c) j).map byteE))]), lg_init 0 (by omega) (weak_of allsA (all_cons rfl (all_cons rfl (all_cons (eq_row rfl (by simp [lineN, byteE])) all_nil))) rfl rfl), ?_⟩
    rintro σ k ⟨j, hj, rfl, rfl⟩
    have hll := lineN_len cs texts L (i * c) j
    refine ⟨_, Weak.refl _, ?_⟩
    (conv => whnf)
    (split <;> rename_i h2 <;> (try simp only [decide_eq_true_eq, decide_eq_false_iff_not, Bool.not_eq_true', Bool.not_eq_false', Bool.not_eq_true, Bool.not_eq_false, List.length_map] at h2) <;> conv => whnf)
    · have hlj : j < c := by omega
      obtain ⟨hg, hgm⟩ := row_get hcs hlr hlj
      have hij : i * c + j < cs.length := by rw [Nat.add_mul] at hrl; omega
      obtain ⟨x, hx⟩ : ∃ x, cs.getD (i * c + j) 0 = x := ⟨_, rfl⟩
      have hgx : cs[i * c + j]? = some x := by rw [← hx, List.getD_eq_getElem?_getD, List.getElem?_eq_getElem hij]; rfl
      rw [hx] at hgm
      have hx256 := hlt x hgm
      refine ⟨((i * c : Nat) : Int), by rw [← wrap64_id] <;> omega, ?_⟩; (conv => whnf)
      refine ⟨((i * c + j : Nat) : Int), by rw [← wrap64_id] <;> omega, ?_⟩; (conv => whnf)
      refine ⟨i * c + j, rfl, eNat x, by rw [List.getElem?_map, hgx]; rfl, ?_⟩; (conv => whnf)
      have htj : (texts[j]'(by omega)).size = L := ht _ (List.getElem_mem _)
      have hfn : (fun q => mulB (cs.getD (i * c + j) 0) (byteAt (texts.getD j .empty) q)) = fun q => mulB x (byteAt (texts[j]'(by omega)) q) := by
        funext q; rw [hx, List.getD_eq_getElem?_getD, List.getElem?_eq_getElem (by omega : j < texts.length)]; rfl
      refine ⟨LG (fun p : Nat => p ≤ L ∧ (x = 0 → p = 0)) (fun p => L - p) (fun p => AS.of [(1, .one (.row true 1 (texts.map eStr))), (2, .one (.ptr 32 0)), (5, .one (.loc 176 0 i)), (6, .one (vN i)), (7, .one (.loc 352 0 L)), (8, .one (vN j)), (9, .one (vN x)), (10, .one (vN p))]
        [(32, .var (matE r c cs)), (176, .row true 1 ((combN i c cs texts L).map eStr)), (352, .row true 1 ((turnL (lineN cs texts L (i * c) j) (fun q => mulB (cs.getD (i * c + j) 0) (byteAt (texts.getD j .empty) q)) p).map byteE))]), lg_init 0 ⟨by omega, fun _ => rfl⟩ (weak_of allsA (all_cons rfl (all_cons rfl (all_cons (eq_row rfl (by rw [turnL_zero])) all_nil))) rfl rfl), ?_⟩
      rw [hfn]
      rintro σ k ⟨p, ⟨hp, hp0⟩, rfl, rfl⟩
      have htl2 := turnL_len (old := lineN cs texts L (i * c) j) (f := fun q => mulB x (byteAt (texts[j]'(by omega)) q)) (p := p) (by omega)
      have fin : ∀ q : Nat, q = p → (x = 0 ∨ q = L) → ((turnL (lineN cs texts L (i * c) j) (fun q => mulB x (byteAt (texts[j]'(by omega)) q)) p).map byteE) = (lineN cs texts L (i * c) (j + 1)).map byteE := by
        rintro q rfl (e | e)
        · rw [hp0 e, turnL_zero, lineN_skip (by rw [hx, e])]
        · rw [lineN, hfn, e]
      refine ⟨_, Weak.refl _, ?_⟩
      (conv => whnf)
      (split <;> rename_i h4 <;> (try simp only [decide_eq_true_eq, decide_eq_false_iff_not, Bool.not_eq_true', Bool.not_eq_false', Bool.not_eq_true, Bool.not_eq_false, List.length_map] at h4) <;> conv => whnf)
      · (split <;> rename_i h5 <;> (try simp only [decide_eq_true_eq, decide_eq_false_iff_not, Bool.not_eq_true', Bool.not_eq_false', Bool.not_eq_true, Bool.not_eq_false, List.length_map] at h5) <;> conv => whnf)
        · have hlp : p < L := by omega
          have hgp := turnL_get (old := lineN cs texts L (i * c) j) (f := fun q => mulB x (byteAt (texts[j]'(by omega)) q)) (p := p) (by omega)
          have hst := turnL_set (old := lineN cs texts L (i * c) j) (f := fun q => mulB x (byteAt (texts[j]'(by omega)) q)) (p := p) (by omega)
          refine ⟨p, rfl, hlp, ?_⟩; (conv => whnf)
          refine ⟨byteE ((lineN cs texts L (i * c) j).getD p 0), by rw [Nat.zero_add, List.getElem?_map, hgp]; rfl, ?_⟩; (conv => whnf)
          refine ⟨j, rfl, eStr (texts[j]'(by omega)), at_map (by omega), ?_⟩; (conv => whnf)
          refine ⟨p, rfl, by omega, ?_⟩; (conv => whnf)
          refine ⟨((byteAt (texts[j]'(by omega)) p).toNat : Int), (wrapN (by have := (byteAt (texts[j]'(by omega)) p).toNat_lt; omega)).symm, ?_⟩; (conv => whnf)
          refine ⟨_, _, mulSpec_c (byteAt (texts[j]'(by omega)) p).toNat_lt hx256, lendA, ?_⟩; (conv => whnf)
          refine ⟨_, (u8_wrapI _).symm, ?_⟩; (conv => whnf)
          refine ⟨p, rfl, hlp, ?_⟩; (conv => whnf)
          refine ⟨byteE ((lineN cs texts L (i * c) j).getD p 0), by rw [Nat.zero_add, List.getElem?_map, hgp]; rfl, ?_⟩; (conv => whnf)
          refine ⟨_, rfl, ?_⟩; (conv => whnf)
          (refine ⟨((p + 1 : Nat) : Int), by rw [← wrap64_id] <;> omega, ?_⟩; conv => whnf)
          exact lg_back (p + 1) ⟨by omega, fun e => absurd e (by omega)⟩ (by (try dsimp only); omega) (weak_of allsA (all_cons rfl (all_cons rfl (all_cons (eq_row rfl (by rw [← hst, List.map_set, Nat.zero_add, mulN_comm (byteAt (texts[j]'(by omega)) p).toNat_lt hx256]; exact congrArg (fun z => List.set _ p [AV.lit (.int .u8 z)]) (u8_xorI _ _))) all_nil))) rfl rfl)
        · (refine ⟨((j + 1 : Nat) : Int), by rw [← wrap64_id] <;> omega, ?_⟩; conv => whnf)
          exact lg_back (j + 1) (by omega) (by (try dsimp only); omega) (weak_of allsA (all_cons rfl (all_cons rfl (all_cons (eq_row rfl (fin p rfl (.inl (by omega)))) all_nil))) rfl rfl)
      · (refine ⟨((j + 1 : Nat) : Int), by rw [← wrap64_id] <;> omega, ?_⟩; conv => whnf)
        exact lg_back (j + 1) (by omega) (by (try dsimp only); omega) (weak_of allsA (all_cons rfl (all_cons rfl (all_cons (eq_row rfl (fin p rfl (.inr (by omega)))) all_nil))) rfl rfl)
    · have : j = c := by omega
      subst this
      refine ⟨true, _, lineN cs texts L (i * j) j, ⟨rfl, by rw [List.length_map, hll]; omega, rfl, rfl⟩, by rw [List.drop_zero]; exact List.take_of_length_le (by rw [List.length_map, hll]; omega), ?_⟩; (conv => whnf)
      refine ⟨true, [eStr (txtOf (lineN cs texts L (i * j) j))], ⟨rfl, by simp [chunk], rfl, rfl⟩, ?_⟩; (conv => whnf)
      refine ⟨_, laid_map (f := eStr) (fun _ => rfl) [txtOf (lineN cs texts L (i * j) j)], rfl, by rw [List.length_map, hcn], rfl, by rw [List.length_map, hcn]; simp [maxLen]; omega, by rw [List.length_map, hcn]; simp; omega, ?_⟩; (conv => whnf)
      (refine ⟨((i + 1 : Nat) : Int), by rw [← wrap64_id] <;> omega, ?_⟩; conv => whnf)
      exact lg_back (i + 1) (by omega) (by (try dsimp only); omega) (weak_of (all_cons rfl (all_cons rfl (all_cons (eq_loc rfl (by rw [List.length_map, hcn]; rfl)) (all_cons rfl all_nil)))) (all_cons rfl (all_cons (eq_row rfl (by rw [hcs1, List.map_append])) all_nil)) rfl rfl)
  · have : i = r := by omega
    subst this
    exact ⟨close_row rfl rfl (by rw [List.length_map, hcn]) rfl, trivial⟩
end Go.Proofs.YthdejoipdgahiaaGreatDoor
namespace Go.Proofs.YthdejoipdgahiaaGreatDoor
open Go.RowKit
set_option linter.unusedSimpArgs false
set_option linter.unusedVariables false
set_option maxRecDepth 100000
def repLay_ren : Go.Shelf.Ren := ⟨fun | 105 => 128 | 212 => 154 | 99 => 53 | 165 => 140 | 166 => 141 | 170 => 155 | 169 => 142 | 263 => 180 | 264 => 181 | 206 => 84 | 240 => 171 | 241 => 172 | 276 => 192 | 277 => 193 | n => n, fun | 9 => 9 | 3 => 3 | 4 => 4 | 20 => 20 | 0 => 0 | 46 => 175 | 109 => 198 | 5 => 5 | 72 => 184 | 76 => 188 | 51 => 148 | 146 => 221 | 53 => 193 | 148 => 223 | 70 => 182 | 37 => 93 | 75 => 187 | 127 => 213 | 164 => 235 | 80 => 131 | n => n, fun | n => n⟩
theorem repLay : Go.Proofs.Lays.n105 Tryz.prog repLay_ren := {
  mixed := by kernel_rfl
  f99 := Tryz.func53.trans (congrArg some (by kernel_rfl))
  f105 := Tryz.func128.trans (congrArg some (by kernel_rfl))
  f165 := Tryz.func140.trans (congrArg some (by kernel_rfl))
  f166 := Tryz.func141.trans (congrArg some (by kernel_rfl))
  f169 := Tryz.func142.trans (congrArg some (by kernel_rfl))
  f170 := Tryz.func155.trans (congrArg some (by kernel_rfl))
  f206 := Tryz.func84.trans (congrArg some (by kernel_rfl))
  f212 := Tryz.func154.trans (congrArg some (by kernel_rfl))
  f240 := Tryz.func171.trans (congrArg some (by kernel_rfl))
  f241 := Tryz.func172.trans (congrArg some (by kernel_rfl))
  f263 := Tryz.func180.trans (congrArg some (by kernel_rfl))
  f264 := Tryz.func181.trans (congrArg some (by kernel_rfl))
  f276 := Tryz.func192.trans (congrArg some (by kernel_rfl))
  f277 := Tryz.func193.trans (congrArg some (by kernel_rfl))
  t0 := Tryz.underlying0
  a0 := Tryz.isAgg0
  z0 := Tryz.sizeOf0
  v0 := Tryz.zeroValue0
  t3 := Tryz.underlying3
  a3 := Tryz.isAgg3
  z3 := Tryz.sizeOf3
  v3 := Tryz.zeroValue3
  t4 := Tryz.underlying4
  a4 := Tryz.isAgg4
  z4 := Tryz.sizeOf4
  v4 := Tryz.zeroValue4
  t5 := Tryz.underlying5
  a5 := Tryz.isAgg5
  z5 := Tryz.sizeOf5
  v5 := Tryz.zeroValue5
  t9 := Tryz.underlying9
  a9 := Tryz.isAgg9
  z9 := Tryz.sizeOf9
  v9 := Tryz.zeroValue9
  t20 := Tryz.underlying20
  a20 := Tryz.isAgg20
  z20 := Tryz.sizeOf20
  v20 := Tryz.zeroValue20
  t37 := Tryz.underlying93
  a37 := Tryz.isAgg93
  z37 := Tryz.sizeOf93
  v37 := Tryz.zeroValue93
  t46 := Tryz.underlying175
  a46 := Tryz.isAgg175
  z46 := Tryz.sizeOf175
  v46 := Tryz.zeroValue175
  t51 := Tryz.underlying148
  a51 := Tryz.isAgg148
  z51 := Tryz.sizeOf148
  v51 := Tryz.zeroValue148
  t53 := Tryz.underlying193
  a53 := Tryz.isAgg193
  z53 := Tryz.sizeOf193
  v53 := Tryz.zeroValue193
  t70 := Tryz.underlying182
  a70 := Tryz.isAgg182
  z70 := Tryz.sizeOf182
  v70 := Tryz.zeroValue182
  t72 := Tryz.underlying184
  a72 := Tryz.isAgg184
  z72 := Tryz.sizeOf184
  v72 := Tryz.zeroValue184
  t75 := Tryz.underlying187
  a75 := Tryz.isAgg187
  z75 := Tryz.sizeOf187
  v75 := Tryz.zeroValue187
  t76 := Tryz.underlying188
  a76 := Tryz.isAgg188
  z76 := Tryz.sizeOf188
  v76 := Tryz.zeroValue188
  t109 := Tryz.underlying198
  a109 := Tryz.isAgg198
  z109 := Tryz.sizeOf198
  v109 := Tryz.zeroValue198
  t127 := Tryz.underlying213
  a127 := Tryz.isAgg213
  z127 := Tryz.sizeOf213
  v127 := Tryz.zeroValue213
  t146 := Tryz.underlying221
  a146 := Tryz.isAgg221
  z146 := Tryz.sizeOf221
  v146 := Tryz.zeroValue221
  t148 := Tryz.underlying223
  a148 := Tryz.isAgg223
  z148 := Tryz.sizeOf223
  v148 := Tryz.zeroValue223
  t164 := Tryz.underlying235
  a164 := Tryz.isAgg235
  z164 := Tryz.sizeOf235
  v164 := Tryz.zeroValue235 }
theorem repX : Go.Proofs.Builder.Extra Tryz.prog repLay_ren where
  sizeBuilder := by kernel_rfl
  liesBuilder := by kernel_rfl
  t5 := repLay.t5
  a5 := repLay.a5
  z5 := repLay.z5
  v5 := repLay.v5
  infoByte := by kernel_rfl
  cellsByte := by kernel_rfl
  sizeByte := by kernel_rfl
  neB5 := by decide
theorem repeat_zero (c : Nat) : Lib.repeatL [(0 : UInt8)] c = List.replicate c 0 := by
  induction c with
  | zero => rfl
  | succ c ih => first | (rw [Lib.repeatL, ih]; rfl) | (simp [Lib.repeatL, ih, List.replicate_succ]; done)
theorem repeatZ_c (c : Nat) (hc : c ≤ 1000000) : Fun1 Tryz.prog 128 [.one (.lit (.string ⟨#[0]⟩)), .one (.lit (.int .i64 (c : Int)))] (.one (.lit (.string (txtOf (List.replicate c 0))))) := by
  refine ⟨⟨_, Tryz.func128, by kernel_rfl, by kernel_rfl⟩, rfl, fun w I vs hI _ hargs => ?_⟩
  obtain ⟨vs⟩ := vs
  match vs, hargs with
  | [x, y], hargs =>
    have hx := hargs.1.1
    have hy := hargs.2.1.1
    cases hx; cases hy
    have key := Go.Proofs.Any.strings_Repeat repLay repX ⟨#[0]⟩ c w (by omega) (by show 1 * c ≤ _; omega)
    refine key.mono ?_
    rintro e w' ⟨rfl, hb⟩
    rw [show (⟨#[(0 : UInt8)]⟩ : ByteArray).data.toList = [0] from rfl, repeat_zero]
    exact ⟨_, fun _ => False, rfl, ⟨.plain rfl (.lit _) (fun _ h => h), rfl⟩, fun _ h => h.elim, ⟨hb.os, hb.tape, hb.output, hb.size, hb.block, fun q => by cases q⟩⟩
end Go.Proofs.YthdejoipdgahiaaGreatDoor
namespace Go.Proofs.YthdejoipdgahiaaGreatDoor
open Go.RowKit
set_option linter.unusedSimpArgs false
set_option linter.unusedVariables false
set_option maxRecDepth 100000
set_option maxHeartbeats 4000000
def shN (k size : Nat) : Nat := (size + k - 1) / k
theorem shN_bounds {k size : Nat} (hk : 1 ≤ k) : size ≤ k * shN k size ∧ k * shN k size ≤ size + k - 1 ∧ shN k size ≤ size := by
  unfold shN
  have h1 := Nat.div_mul_le_self (size + k - 1) k
  have h2 := Nat.lt_div_mul_add (a := size + k - 1) (b := k) (by omega)
  rw [Nat.mul_comm k]
  refine ⟨by omega, h1, ?_⟩
  rcases Nat.eq_zero_or_pos size with rfl | h
  · rw [Nat.zero_add, Nat.div_eq_of_lt (by omega)]; exact Nat.le_refl _
  · refine Nat.div_le_of_le_mul ?_
    have : size + k ≤ k * size + 1 := by
      have := Nat.mul_le_mul (show 1 ≤ k from hk) (show 1 ≤ size from h)
      obtain ⟨k', rfl⟩ : ∃ k', k = k' + 1 := ⟨k - 1, by omega⟩
      have : k' * 1 ≤ k' * size := Nat.mul_le_mul_left _ h
      rw [Nat.add_mul]; omega
    omega
theorem txtOf_size (l : List UInt8) : (txtOf l).size = l.length := rfl
theorem extract_txt (s : ByteArray) (a b : Nat) : s.extract a b = txtOf ((s.data.toList.drop a).take (b - a)) := by
  apply ByteArray.ext
  apply Array.ext'
  rw [Lib.extract_data]
  rfl
theorem shardImpl_c {k n : Nat} (hk : 1 ≤ k ∧ k ≤ 8) (hn : n ≤ 20000) : Fun1 Tryz.prog 102 [.one (vN k), .one (vN n)] (.one (vN (shN k n))) := by
  refine fun1_of_vc tb_ok mix (fn := Tryz.f102) Tryz.func102 rfl (by kernel_rfl) (by kernel_rfl) (by simp [Tryz.f102]) (by rfl) ?_
  (conv => whnf)
  refine ⟨_, _, within_c k 1 8, lendA, ?_⟩
  rw [show (decide ((1 : Int) ≤ (k : Int)) && decide ((k : Int) ≤ 8)) = true by simp; omega]
  (conv => whnf)
  refine ⟨_, _, within_c n 0 20000, lendA, ?_⟩
  rw [show (decide ((0 : Int) ≤ (n : Int)) && decide ((n : Int) ≤ 20000)) = true by simp; omega]
  (conv => whnf)
  refine ⟨((n + k : Nat) : Int), by rw [← wrap64_id] <;> omega, ?_⟩; (conv => whnf)
  refine ⟨((n + k - 1 : Nat) : Int), by rw [← wrap64_id] <;> omega, ?_⟩; (conv => whnf)
  refine ⟨by omega, (shN k n : Nat), ?_, ?_⟩
  · rw [show ((n + k - 1 : Nat) : Int).tdiv (k : Int) = ((shN k n : Nat) : Int) from rfl]
    exact (wrapN (by have := (shN_bounds (size := n) hk.1).2.2; omega)).symm
  (conv => whnf)
  exact ⟨close_int rfl, trivial⟩
theorem l04Size_c (n : Int) : Fun1 Tryz.prog 112 [.one (.lit (.int .i64 n))] (.one (.lit (.bool (decide (0 ≤ n) && decide (n ≤ 20000))))) := by
  refine fun1_of_vc tb_ok mix (fn := Tryz.f112) Tryz.func112 rfl (by kernel_rfl) (by kernel_rfl) (by simp [Tryz.f112]) (by rfl) ?_
  (conv => whnf)
  (repeat' (split <;> rename_i hb <;> (try simp only [decide_eq_true_eq, decide_eq_false_iff_not, Bool.not_eq_true', Bool.not_eq_false', Bool.not_eq_true, Bool.not_eq_false, List.length_map] at hb) <;> conv => whnf))
  all_goals exact ⟨close_bool (by simp [*]), trivial⟩
theorem shardSpec_c {k n : Nat} (hk : 1 ≤ k ∧ k ≤ 8) (hn : n ≤ 20000) : Fun1 Tryz.prog 73 [.one (vN k), .one (vN n)] (.one (vN (shN k n))) := by
  refine fun1_of_vc tb_ok mix (fn := Tryz.f73) Tryz.func73 rfl (by kernel_rfl) (by kernel_rfl) (by simp [Tryz.f73]) (by rfl) ?_
  (conv => whnf)
  refine ⟨_, _, codeSpec_c k 0, lendA, ?_⟩
  rw [show codeOk (k : Int) 0 = true from codeN (m := 0) hk (by decide)]
  (conv => whnf)
  refine ⟨_, _, l04Size_c n, lendA, ?_⟩
  rw [show (decide ((0 : Int) ≤ (n : Int)) && decide ((n : Int) ≤ 20000)) = true by simp; omega]
  (conv => whnf)
  refine ⟨((n + k : Nat) : Int), by rw [← wrap64_id] <;> omega, ?_⟩; (conv => whnf)
  refine ⟨((n + k - 1 : Nat) : Int), by rw [← wrap64_id] <;> omega, ?_⟩; (conv => whnf)
  refine ⟨by omega, (shN k n : Nat), ?_, ?_⟩
  · rw [show ((n + k - 1 : Nat) : Int).tdiv (k : Int) = ((shN k n : Nat) : Int) from rfl]
    exact (wrapN (by have := (shN_bounds (size := n) hk.1).2.2; omega)).symm
  (conv => whnf)
  exact ⟨close_int rfl, trivial⟩
theorem cauchy_lt {k m : Nat} (hk : k ≤ 8) (hm : m ≤ 6) : ∀ x ∈ (cauchyN k m).flatten, x < 256 := by
  intro x hx
  obtain ⟨r, hr, hx⟩ := List.mem_flatten.1 hx
  simp only [cauchyN, List.mem_append, List.mem_map, List.mem_range] at hr
  rcases hr with ⟨i, _, rfl⟩ | ⟨i, hi, rfl⟩
  · unfold unitR at hx
    rcases List.mem_or_eq_of_mem_set hx with h | h
    · rw [List.eq_of_mem_replicate h]; decide
    · rw [h]; decide
  · obtain ⟨j, hj, rfl⟩ := List.mem_map.1 hx
    have := List.mem_range.1 hj
    exact invN_lt (Nat.lt_of_lt_of_le (xor16 (by omega) (by omega)) (by decide))
theorem cauchy_cells (k m : Nat) : (cauchyN k m).flatten.length = (k + m) * k := by rw [flat_len' (fun x hx => cauchyN_row x hx), cauchyN_len]
end Go.Proofs.YthdejoipdgahiaaGreatDoor
namespace Go.Proofs.YthdejoipdgahiaaGreatDoor
set_option linter.unusedSimpArgs false
set_option linter.unusedVariables false
theorem mulB_one (b : UInt8) : mulB 1 b = b := by
  unfold mulB; rw [one_mulN b.toNat_lt]; exact UInt8.ofNat_toNat
theorem lineN_unit {cs : List Nat} {texts : List ByteArray} {L base i : Nat} {t : ByteArray} (ht : texts.getD i .empty = t) (hs : t.size = L) :
    ∀ j, (∀ q, q < j → cs.getD (base + q) 0 = if q = i then 1 else 0) → lineN cs texts L base j = if j ≤ i then List.replicate L 0 else t.data.toList
  | 0, _ => by rw [if_pos (by omega)]; rfl
  | j + 1, h => by
    have ih := lineN_unit ht hs j fun q hq => h q (by omega)
    by_cases e : j = i
    · subst e
      rw [if_neg (by omega), lineN, ih, if_pos (Nat.le_refl _), h j (by omega), if_pos rfl, ht]
      have hl : (List.replicate L (0 : UInt8)).length = L := by simp
      have := turnL_end (List.replicate L (0 : UInt8)) (fun q => mulB 1 (byteAt t q))
      rw [hl] at this
      rw [this]
      apply List.ext_getElem?
      intro q
      have hd : t.data.toList.length = L := by simpa using hs
      rw [List.getElem?_map]
      by_cases hq : q < L
      · rw [List.getElem?_range hq, List.getElem?_eq_getElem (by omega)]
        simp [mulB_one, byteAt, getD_lt, hq, hd]
        rw [Array.getElem?_eq_getElem (by show q < t.size; omega)]; rfl
      · rw [List.getElem?_eq_none (by simp; omega), List.getElem?_eq_none (by omega)]; rfl
    · rw [lineN_skip (by rw [h j (by omega), if_neg e]), ih]
      by_cases e2 : j ≤ i
      · rw [if_pos e2, if_pos (by omega)]
      · rw [if_neg e2, if_neg (by omega)]
theorem cauchyN_rw {k m i : Nat} (hi : i < k) : rw' (cauchyN k m) i = unitR i k := by
  rw [rw', cauchyN, List.getD_eq_getElem?_getD, List.getElem?_append_left (by simpa using hi), List.getElem?_map, List.getElem?_range hi]; rfl
theorem comb_take {k m L : Nat} {data : List ByteArray} (hd : data.length = k) (hs : ∀ t ∈ data, t.size = L) : (combN (k + m) k (cauchyN k m).flatten data L).take k = data := by
  refine List.ext_getElem (by simp [combN, hd]) fun i h1 h2 => ?_
  have hi : i < k := by rw [← hd]; exact h2
  rw [List.getElem_take]
  simp only [combN, List.getElem_map, List.getElem_range]
  have ht : data.getD i .empty = data[i] := getD_lt h2
  rw [lineN_unit (i := i) ht (hs _ (List.getElem_mem h2)) k fun q hq => by rw [flat_get (fun r hr => cauchyN_row r hr) i q (by simp; omega) hq, cel, cauchyN_rw hi, unitR_getD hi], if_neg (by omega)]
  rfl
end Go.Proofs.YthdejoipdgahiaaGreatDoor
namespace Go.Proofs.YthdejoipdgahiaaGreatDoor
set_option linter.unusedSimpArgs false
set_option linter.unusedVariables false
def idxN (k n : Nat) (h : Nat → Bool) : List Nat := ((List.range n).filter h).take k
theorem idxN_mem {k n : Nat} {h : Nat → Bool} {i : Nat} (hi : i ∈ idxN k n h) : i < n ∧ h i = true := by
  have := List.mem_filter.1 (List.mem_of_mem_take hi)
  exact ⟨List.mem_range.1 this.1, this.2⟩
theorem rowC_eq {k m i : Nat} (hi : i < k + m) : rw' (cauchyN k m) i = rowC k i := by
  rcases Nat.lt_or_ge i k with h | h
  · rw [cauchyN_rw h, rowC, if_pos h]
  · rw [rw', cauchyN, List.getD_eq_getElem?_getD, List.getElem?_append_right (by simpa using h), List.getElem?_map]
    simp only [List.length_map, List.length_range]
    rw [List.getElem?_range (by omega)]
    show parR k (i - k) = _
    rw [rowC, if_neg (by omega), parR, show k + (i - k) = i by omega]
def pickM (k m : Nat) (idx : List Nat) : List (List Nat) := idx.map fun i => rw' (cauchyN k m) i
theorem pickM_eq {k m : Nat} {idx : List Nat} (h : ∀ i ∈ idx, i < k + m) : pickM k m idx = idx.map (rowC k) := List.map_congr_left fun i hi => rowC_eq (h i hi)
theorem pick_ok {k m : Nat} (hk : k ≤ 8) (hm : m ≤ 6) {idx : List Nat} (hl : idx.length = k) (h : ∀ i ∈ idx, i < k + m) : RowsOk k k (pickM k m idx) := by
  rw [pickM_eq h]
  exact { len := by simpa using hl, wid := fun r hr => by obtain ⟨i, _, rfl⟩ := List.mem_map.1 hr; exact rowC_len k i,
          byt := fun r hr x hx => by obtain ⟨i, hi, rfl⟩ := List.mem_map.1 hr; exact rowC_byte hk (by have := h i hi; omega) x hx }
theorem pick_ns {k m : Nat} (hk : k ≤ 8) (hm : m ≤ 6) {h : Nat → Bool} (hl : k ≤ ((List.range (k + m)).filter h).length) : NSR k k (cel (pickM k m (idxN k (k + m) h))) := by
  rw [pickM_eq fun i hi => (idxN_mem hi).1]
  have e : (List.range (k + m)).filter h = (List.range k).filter h ++ ((List.range m).map (k + ·)).filter h := by rw [List.range_add, List.filter_append]
  have hD : ((List.range k).filter h).length ≤ k := by have := List.length_filter_le h (List.range k); simpa using this
  have hl2 := hl
  rw [e, List.length_append] at hl2
  have e2 : idxN k (k + m) h = (List.range k).filter h ++ (((List.range m).map (k + ·)).filter h).take (k - ((List.range k).filter h).length) := by
    rw [idxN, e, List.take_append, List.take_of_length_le hD]
  have hn : (idxN k (k + m) h).Nodup := List.Nodup.sublist ((List.take_sublist _ _).trans List.filter_sublist) List.nodup_range
  rw [e2] at hn
  rw [e2]
  refine cauchy_pick hk h _ (List.nodup_append.1 hn).2.1 (fun i hi => ?_) (by rw [List.length_take]; omega)
  obtain ⟨j, hj, rfl⟩ := List.mem_map.1 (List.mem_filter.1 (List.mem_of_mem_take hi)).1
  have := List.mem_range.1 hj
  omega
end Go.Proofs.YthdejoipdgahiaaGreatDoor
namespace Go.Proofs.YthdejoipdgahiaaGreatDoor
open Go.RowKit
set_option linter.unusedSimpArgs false
set_option linter.unusedVariables false
set_option maxRecDepth 100000
set_option maxHeartbeats 4000000
theorem indexRows_c (l : List (List Nat)) (g : FuncId) (xs : List AV) (hxs : xs.all AV.isFree = true) (p : List Nat → Bool) (hl : l.length ≤ 4294967296) (hg : ∀ d ∈ l, Fun1 Tryz.prog g [.one (.row true 1 (d.map eNat)), .one (.bptr xs 0)] (.one (.lit (.bool (p d))))) :
    Fun1 Tryz.prog 188 [.one (.row true 1 (l.map rN)), .one (.fn g [.bptr xs 0])] (.one (.lit (.int .i64 (match l.findIdx? p with | some i => (i : Int) | none => -1)))) := by
  refine fun1_of_vc tb_ok mix (fn := Tryz.f188) Tryz.func188 rfl (by kernel_rfl) (by kernel_rfl) (by simp [Tryz.f188]) (by rfl) ?_
  (conv => whnf)
  refine ⟨LG (fun i : Nat => i ≤ l.length ∧ ∀ j (h : j < l.length), j < i → p l[j] = false) (fun i => l.length - i) (fun i => AS.of [(0, .one (.row true 1 (l.map rN))), (1, .one (.fn g [.bptr xs 0])), (7, .one (.lit (.int .i64 (l.length : Nat)))), (8, .one (.lit (.int .i64 (i : Nat))))] []), lg_init 0 ⟨by omega, fun j h h' => by omega⟩ (weak_of allsA allsA rfl rfl), ?_⟩
  rintro σ k ⟨i, ⟨hi, hc⟩, rfl, rfl⟩
  refine ⟨_, Weak.refl _, ?_⟩
  (conv => whnf)
  (split <;> rename_i h <;> (try simp only [decide_eq_true_eq, decide_eq_false_iff_not, Bool.not_eq_true', Bool.not_eq_false', Bool.not_eq_true, Bool.not_eq_false, List.length_map] at h) <;> conv => whnf)
  · have hlt : i < l.length := by omega
    refine ⟨i, rfl, _, at_map hlt, ?_⟩; (conv => whnf)
    refine ⟨_, _, hg l[i] (List.getElem_mem hlt), lends_cons (lend_one (la_row rfl rfl)) (lends_cons (lend_one (la_bptr rfl rfl)) lends_nil), ?_⟩; (conv => whnf)
    (split <;> rename_i h2 <;> (try simp only [decide_eq_true_eq, decide_eq_false_iff_not, Bool.not_eq_true', Bool.not_eq_false', Bool.not_eq_true, Bool.not_eq_false, List.length_map] at h2) <;> conv => whnf)
    · have : l.findIdx? p = some i := by
        rw [List.findIdx?_eq_some_iff_getElem]
        exact ⟨hlt, h2, fun j hj => by have := hc j (by omega) hj; simp [this]⟩
      rw [this]
      exact (by repeat' (first | exact trivial | exact close_int rfl | exact close_str rfl | exact close_bool rfl | exact close_int (by omega) | exact close_row rfl rfl (by first | rfl | simp) (by first | rfl | simp) | exact close_nil (by first | rfl | simp) | exact rfl | apply And.intro | apply closeTs_cons rfl))
    · (refine ⟨((i + 1 : Nat) : Int), by rw [← wrap64_id] <;> omega, ?_⟩; conv => whnf)
      exact lg_back (i + 1) ⟨by omega, fun j hj hji => by
        by_cases e : j = i
        · subst e; exact h2
        · exact hc j hj (by omega)⟩ (by (try dsimp only); omega) (weak_of allsA allsA rfl rfl)
  · have : l.findIdx? p = none := by
      rw [List.findIdx?_eq_none_iff]
      intro x hx
      obtain ⟨j, hj, rfl⟩ := List.getElem_of_mem hx
      exact hc j hj (by omega)
    rw [this]
    exact (by repeat' (first | exact trivial | exact close_int rfl | exact close_str rfl | exact close_bool rfl | exact close_int (by omega) | exact close_row rfl rfl (by first | rfl | simp) (by first | rfl | simp) | exact close_nil (by first | rfl | simp) | exact rfl | apply And.intro | apply closeTs_cons rfl))
theorem reducedFn_c {d : List Nat} {c : Nat} (hc : c < d.length) (hd : d.length ≤ 65536) : Fun1 Tryz.prog 189 [.one (.row true 1 (d.map eNat)), .one (.bptr [vN c] 0)] (.one (.lit (.bool (decide (d.getD c 0 ≠ 0))))) := by
  refine fun1_of_vc tb_ok mix (fn := Tryz.f189) Tryz.func189 rfl (by kernel_rfl) (by kernel_rfl) (by simp [Tryz.f189]) (by rfl) ?_
  (conv => whnf)
  refine ⟨c, rfl, _, at_map hc, ?_⟩; (conv => whnf)
  refine ⟨close_bool ?_, trivial⟩
  rw [getD_lt hc]
  by_cases e : d[c] = 0
  · simp [e]
  · simp [e]
def sclK (x : Nat) (r : List Nat) (i : Nat) : List Nat := (sclR x r).take i ++ r.drop i
theorem sclK_len (x : Nat) (r : List Nat) {i : Nat} (h : i ≤ r.length) : (sclK x r i).length = r.length := by simp [sclK, sclR_len]; omega
theorem rl_nb (l : List Nat) : nbRows [(1, l.map eNat)] = true := nbRows_cons (nbRow_map (fun y => rfl) _) nbRows_nil
theorem scale_c {r : List Nat} {x : Nat} (hl : r.length ≤ 65536) (hb : ∀ y ∈ r, y < 256) (hx : x < 256) :
    MutF Tryz.prog 190 [.one (.loc 0 0 r.length), .one (vN x)] [(1, r.map eNat)] [(1, (sclR x r).map eNat)] (.tuple #[]) := by
  refine mutf_of_vc tb_ok mix (fn := Tryz.f190) Tryz.func190 rfl (by kernel_rfl) (by kernel_rfl) (by simp [Tryz.f190]) (by simp) (by exact rl_nb _) (by exact rl_nb _) rfl fun at_ => ?_
  (conv => whnf)
  refine ⟨LG (fun i : Nat => i ≤ r.length) (fun i => r.length - i) (fun i => AS.of [(0, .one (.loc 0 0 r.length)), (1, .one (vN x)), (6, .one (.loc 0 0 r.length)), (7, .one (vN r.length)), (8, .one (vN i))] [(0, .row true 1 ((sclK x r i).map eNat)), (8, .pin 0 (at_ 0))]),
    lg_init 0 (by omega) (weak_of allsA (all_cons rfl (all_cons rfl all_nil)) rfl rfl), ?_⟩
  rintro σ j ⟨i, hi, rfl, rfl⟩
  have hsl := sclK_len x r hi
  refine ⟨_, Weak.refl _, ?_⟩
  (conv => whnf)
  (split <;> rename_i h <;> (try simp only [decide_eq_true_eq, decide_eq_false_iff_not, Bool.not_eq_true', Bool.not_eq_false', Bool.not_eq_true, Bool.not_eq_false, List.length_map] at h) <;> conv => whnf)
  · have hlt : i < r.length := by omega
    have hg : ((sclK x r i).map eNat)[0 + i]? = some (eNat (r.getD i 0)) := by
      rw [Nat.zero_add, List.getElem?_map, List.getElem?_eq_getElem (by omega), ← getD_lt (d := 0), sclK, get_td (by rw [sclR_len]; exact hlt) hlt]; rfl
    refine ⟨i, rfl, hlt, ?_⟩; (conv => whnf)
    refine ⟨_, hg, ?_⟩; (conv => whnf)
    refine ⟨_, _, mulImpl_c (getD_byte hb i) hx, lendA, ?_⟩; (conv => whnf)
    refine ⟨i, rfl, hlt, ?_⟩; (conv => whnf)
    refine ⟨_, hg, ?_⟩; (conv => whnf)
    refine ⟨_, rfl, ?_⟩; (conv => whnf)
    (refine ⟨((i + 1 : Nat) : Int), by rw [← wrap64_id] <;> omega, ?_⟩; conv => whnf)
    exact lg_back (i + 1) (by omega) (by (try dsimp only); omega) (weak_of allsA (all_cons (eq_row rfl (by rw [Nat.zero_add]; show ((sclK x r i).map eNat).set i (eNat (mulN (r.getD i 0) x)) = _; rw [← List.map_set, sclK, set_td (by rw [sclR_len]; exact hlt) hlt (sclR_getD hx r i).symm]; rfl)) (all_cons rfl all_nil)) rfl rfl)
  · have : i = r.length := by omega
    subst this
    refine ⟨rfl, ⟨rfl, ?_⟩, rfl, trivial⟩
    show (sclK x r r.length).map eNat = (sclR x r).map eNat
    rw [sclK, List.drop_length, List.append_nil, List.take_of_length_le (by rw [sclR_len]; omega)]
theorem two_nb (l l' : List Nat) : nbRows [(1, l.map eNat), (1, l'.map eNat)] = true := nbRows_cons (nbRow_map (fun y => rfl) _) (nbRows_cons (nbRow_map (fun y => rfl) _) nbRows_nil)
def addK (r o : List Nat) (y i : Nat) : List Nat := (addR r o y).take i ++ r.drop i
theorem addTimes_c {r o : List Nat} {y : Nat} (hl : r.length ≤ 65536) (ho : o.length = r.length) (hb : ∀ z ∈ r, z < 256) (hb2 : ∀ z ∈ o, z < 256) (hy : y < 256) :
    MutF Tryz.prog 191 [.one (.loc 0 0 r.length), .one (.loc 1 0 o.length), .one (vN y)] [(1, r.map eNat), (1, o.map eNat)] [(1, (addR r o y).map eNat), (1, o.map eNat)] (.tuple #[]) := by
  have hal : (addR r o y).length = r.length := addR_len ho.symm
  refine mutf_of_vc tb_ok mix (fn := Tryz.f191) Tryz.func191 rfl (by kernel_rfl) (by kernel_rfl) (by simp [Tryz.f191]) (by simp) (by exact two_nb _ _) (by exact two_nb _ _) rfl fun at_ => ?_
  (conv => whnf)
  refine ⟨LG (fun i : Nat => i ≤ r.length) (fun i => r.length - i) (fun i => AS.of [(0, .one (.loc 0 0 r.length)), (2, .one (vN y)), (8, .one (.loc 1 0 o.length)), (9, .one (vN o.length)), (10, .one (vN i))] [(0, .row true 1 ((addK r o y i).map eNat)), (1, .row true 1 (o.map eNat)), (8, .pin 0 (at_ 0)), (9, .pin 1 (at_ 1))]),
    lg_init 0 (by omega) (weak_of allsA (all_cons rfl (all_cons rfl (all_cons rfl (all_cons rfl all_nil)))) rfl rfl), ?_⟩
  rintro σ j ⟨i, hi, rfl, rfl⟩
  have hsl : (addK r o y i).length = r.length := by simp [addK, hal]; omega
  refine ⟨_, Weak.refl _, ?_⟩
  (conv => whnf)
  (split <;> rename_i h <;> (try simp only [decide_eq_true_eq, decide_eq_false_iff_not, Bool.not_eq_true', Bool.not_eq_false', Bool.not_eq_true, Bool.not_eq_false, List.length_map] at h) <;> conv => whnf)
  · have hlt : i < r.length := by omega
    have hg : ((addK r o y i).map eNat)[0 + i]? = some (eNat (r.getD i 0)) := by
      rw [Nat.zero_add, List.getElem?_map, List.getElem?_eq_getElem (by omega), ← getD_lt (d := 0), addK, get_td (by rw [hal]; exact hlt) hlt]; rfl
    have hg2 : (o.map eNat)[0 + i]? = some (eNat (o.getD i 0)) := by
      rw [Nat.zero_add, List.getElem?_map, List.getElem?_eq_getElem (by omega), ← getD_lt (d := 0)]; rfl
    have hm := mulN_lt (b := y) (getD_byte hb2 i)
    refine ⟨i, rfl, by omega, ?_⟩; (conv => whnf)
    refine ⟨_, hg2, ?_⟩; (conv => whnf)
    refine ⟨i, rfl, hlt, ?_⟩; (conv => whnf)
    refine ⟨_, hg, ?_⟩; (conv => whnf)
    refine ⟨_, _, mulImpl_c (getD_byte hb2 i) hy, lendA, ?_⟩; (conv => whnf)
    refine ⟨i, rfl, hlt, ?_⟩; (conv => whnf)
    refine ⟨_, hg, ?_⟩; (conv => whnf)
    refine ⟨_, rfl, ?_⟩; (conv => whnf)
    (refine ⟨((i + 1 : Nat) : Int), by rw [← wrap64_id] <;> omega, ?_⟩; conv => whnf)
    have hr := getD_byte hb i
    have hx : bits .xor .i64 ((r.getD i 0 : Nat) : Int) ((mulN (o.getD i 0) y : Nat) : Int) = ((r.getD i 0 ^^^ mulN (o.getD i 0) y : Nat) : Int) := xorN (by omega) (by omega)
    refine lg_back (i + 1) (by omega) (by (try dsimp only); omega) (weak_of allsA (all_cons (eq_row rfl ?_) (all_cons rfl (all_cons rfl (all_cons rfl all_nil)))) rfl rfl)
    show ((addK r o y i).map eNat).set (0 + i) [.lit (.int .i64 (bits .xor .i64 ((r.getD i 0 : Nat) : Int) ((mulN (o.getD i 0) y : Nat) : Int)))] = _
    rw [hx, Nat.zero_add]
    show ((addK r o y i).map eNat).set i (eNat (r.getD i 0 ^^^ mulN (o.getD i 0) y)) = _
    rw [← List.map_set, addK, set_td (by omega) hlt (addR_getD hy ho.symm i).symm]; rfl
  · have : i = r.length := by omega
    subst this
    refine ⟨rfl, ⟨rfl, ?_⟩, rfl, ⟨rfl, rfl⟩, rfl, trivial⟩
    show (addK r o y r.length).map eNat = (addR r o y).map eNat
    rw [addK, List.drop_length, List.append_nil, List.take_of_length_le (by omega)]
end Go.Proofs.YthdejoipdgahiaaGreatDoor
namespace Go.Proofs.YthdejoipdgahiaaGreatDoor
open Go.RowKit
set_option linter.unusedSimpArgs false
set_option linter.unusedVariables false
set_option maxRecDepth 100000
set_option maxHeartbeats 4000000
theorem cell_le {n w a j : Nat} (ha : a < n) (hj : j < w) : a * w + j < n * w := by
  have : (a + 1) * w ≤ n * w := Nat.mul_le_mul_right _ ha
  rw [Nat.add_mul] at this; omega
theorem flat_nb (l : List Nat) : nbRows [(1, l.map eNat)] = true := nbRows_cons (nbRow_map (fun y => rfl) _) nbRows_nil
theorem l03Swap_c {n w a b : Nat} {cs : List Nat} (hn : n ≤ 16) (hw : w ≤ 16) (hl : cs.length = n * w) (ha : a < n) (hb : b < n) :
    MutF Tryz.prog 198 [.agg [vN n, vN w, .loc 0 0 cs.length], .one (vN a), .one (vN b)] [(1, cs.map eNat)] [(1, (swF w a b cs w).map eNat)] (.tuple #[]) := by
  have hnw : n * w ≤ 16 * 16 := Nat.mul_le_mul hn hw
  refine mutf_of_vc tb_ok mix (fn := Tryz.f198) Tryz.func198 rfl (by kernel_rfl) (by kernel_rfl) (by simp [Tryz.f198]) (by simp) (by exact flat_nb _) (by exact flat_nb _) rfl fun at_ => ?_
  (conv => whnf)
  refine ⟨LG (fun i : Nat => i ≤ w) (fun i => w - i) (fun i => AS.of [(1, .one (vN a)), (2, .one (vN b)), (3, .one (.ptr 48 0)), (6, .one (vN i))] [(48, .var [vN n, vN w, .loc 0 0 cs.length]), (0, .row true 1 ((swF w a b cs i).map eNat)), (8, .pin 0 (at_ 0))]),
    lg_init 0 (by omega) (weak_of allsA (all_cons rfl (all_cons rfl (all_cons rfl all_nil))) rfl rfl), ?_⟩
  rintro σ j ⟨i, hi, rfl, rfl⟩
  have hsl := swF_len w a b cs i
  refine ⟨_, Weak.refl _, ?_⟩
  (conv => whnf)
  (split <;> rename_i h <;> (try simp only [decide_eq_true_eq, decide_eq_false_iff_not, Bool.not_eq_true', Bool.not_eq_false', Bool.not_eq_true, Bool.not_eq_false, List.length_map] at h) <;> conv => whnf)
  · have hlt : i < w := by omega
    have h1 := cell_le ha hlt
    have h2 := cell_le hb hlt
    have hz : a * w + w ≤ n * w := by have : (a + 1) * w ≤ n * w := Nat.mul_le_mul_right _ ha; rw [Nat.add_mul] at this; omega
    have hz2 : b * w + w ≤ n * w := by have : (b + 1) * w ≤ n * w := Nat.mul_le_mul_right _ hb; rw [Nat.add_mul] at this; omega
    refine ⟨((a * w : Nat) : Int), by rw [← wrap64_id] <;> omega, ?_⟩; (conv => whnf)
    refine ⟨((a * w + i : Nat) : Int), by rw [← wrap64_id] <;> omega, ?_⟩; (conv => whnf)
    refine ⟨a * w + i, rfl, by omega, ?_⟩; (conv => whnf)
    have hg : ∀ q, q < n * w → ((swF w a b cs i).map eNat)[0 + q]? = some (eNat ((swF w a b cs i).getD q 0)) := fun q hq => by
      rw [Nat.zero_add, List.getElem?_map, List.getElem?_eq_getElem (by omega), ← getD_lt (d := 0)]; rfl
    refine ⟨_, hg _ h1, ?_⟩; (conv => whnf)
    refine ⟨((a * w : Nat) : Int), by rw [← wrap64_id] <;> omega, ?_⟩; (conv => whnf)
    refine ⟨((a * w + i : Nat) : Int), by rw [← wrap64_id] <;> omega, ?_⟩; (conv => whnf)
    refine ⟨((b * w : Nat) : Int), by rw [← wrap64_id] <;> omega, ?_⟩; (conv => whnf)
    refine ⟨((b * w + i : Nat) : Int), by rw [← wrap64_id] <;> omega, ?_⟩; (conv => whnf)
    refine ⟨b * w + i, rfl, by omega, ?_⟩; (conv => whnf)
    refine ⟨_, hg _ h2, ?_⟩; (conv => whnf)
    refine ⟨a * w + i, rfl, by omega, ?_⟩; (conv => whnf)
    refine ⟨_, hg _ h1, ?_⟩; (conv => whnf)
    refine ⟨_, rfl, ?_⟩; (conv => whnf)
    refine ⟨((b * w : Nat) : Int), by rw [← wrap64_id] <;> omega, ?_⟩; (conv => whnf)
    refine ⟨((b * w + i : Nat) : Int), by rw [← wrap64_id] <;> omega, ?_⟩; (conv => whnf)
    refine ⟨b * w + i, rfl, by omega, ?_⟩; (conv => whnf)
    have hg2 : (((swF w a b cs i).map eNat).set (0 + (a * w + i)) (eNat ((swF w a b cs i).getD (b * w + i) 0)))[0 + (b * w + i)]? = some (eNat (((swF w a b cs i).set (a * w + i) ((swF w a b cs i).getD (b * w + i) 0)).getD (b * w + i) 0)) := by
      rw [Nat.zero_add, Nat.zero_add, ← List.map_set, List.getElem?_map, List.getElem?_eq_getElem (by rw [List.length_set]; omega), ← getD_lt (d := 0)]; rfl
    refine ⟨_, hg2, ?_⟩; (conv => whnf)
    refine ⟨_, rfl, ?_⟩; (conv => whnf)
    (refine ⟨((i + 1 : Nat) : Int), by rw [← wrap64_id] <;> omega, ?_⟩; conv => whnf)
    refine lg_back (i + 1) (by omega) (by (try dsimp only); omega) (weak_of allsA (all_cons rfl (all_cons (eq_row rfl ?_) (all_cons rfl all_nil))) rfl rfl)
    show (((swF w a b cs i).map eNat).set (0 + (a * w + i)) (eNat ((swF w a b cs i).getD (b * w + i) 0))).set (0 + (b * w + i)) (eNat ((swF w a b cs i).getD (a * w + i) 0)) = _
    rw [Nat.zero_add, Nat.zero_add, ← List.map_set, ← List.map_set]; rfl
  · have : i = w := by omega
    subst this
    exact ⟨rfl, ⟨rfl, rfl⟩, rfl, trivial⟩
theorem addF_byte {w a b x : Nat} {cs : List Nat} (hb : ∀ y ∈ cs, y < 256) : ∀ j, ∀ y ∈ addF w a b x cs j, y < 256
  | 0 => hb
  | j + 1 => fun y hy => by
    have ih := addF_byte (w := w) (a := a) (b := b) (x := x) hb j
    rcases List.mem_or_eq_of_mem_set hy with h | h
    · exact ih y h
    · rw [h]; exact xor256 (getD_byte ih _) (mulN_lt (getD_byte ih _))
theorem l03Add_c {n w a b x : Nat} {cs : List Nat} (hn : n ≤ 16) (hw : w ≤ 16) (hl : cs.length = n * w) (hcb : ∀ y ∈ cs, y < 256) (ha : a < n) (hb : b < n) (hx : x < 256) :
    MutF Tryz.prog 199 [.agg [vN n, vN w, .loc 0 0 cs.length], .one (vN a), .one (vN b), .one (vN x)] [(1, cs.map eNat)] [(1, (addF w a b x cs w).map eNat)] (.tuple #[]) := by
  have hnw : n * w ≤ 16 * 16 := Nat.mul_le_mul hn hw
  refine mutf_of_vc tb_ok mix (fn := Tryz.f199) Tryz.func199 rfl (by kernel_rfl) (by kernel_rfl) (by simp [Tryz.f199]) (by simp) (by exact flat_nb _) (by exact flat_nb _) rfl fun at_ => ?_
  (conv => whnf)
  refine ⟨LG (fun i : Nat => i ≤ w) (fun i => w - i) (fun i => AS.of [(1, .one (vN a)), (2, .one (vN b)), (3, .one (vN x)), (4, .one (.ptr 64 0)), (8, .one (vN i))] [(64, .var [vN n, vN w, .loc 0 0 cs.length]), (0, .row true 1 ((addF w a b x cs i).map eNat)), (8, .pin 0 (at_ 0))]),
    lg_init 0 (by omega) (weak_of allsA (all_cons rfl (all_cons rfl (all_cons rfl all_nil))) rfl rfl), ?_⟩
  rintro σ j ⟨i, hi, rfl, rfl⟩
  have hsl := addF_len w a b x cs i
  have hbb := addF_byte (w := w) (a := a) (b := b) (x := x) hcb i
  refine ⟨_, Weak.refl _, ?_⟩
  (conv => whnf)
  (split <;> rename_i h <;> (try simp only [decide_eq_true_eq, decide_eq_false_iff_not, Bool.not_eq_true', Bool.not_eq_false', Bool.not_eq_true, Bool.not_eq_false, List.length_map] at h) <;> conv => whnf)
  · have hlt : i < w := by omega
    have h1 := cell_le ha hlt
    have h2 := cell_le hb hlt
    have hz : a * w + w ≤ n * w := by have : (a + 1) * w ≤ n * w := Nat.mul_le_mul_right _ ha; rw [Nat.add_mul] at this; omega
    have hz2 : b * w + w ≤ n * w := by have : (b + 1) * w ≤ n * w := Nat.mul_le_mul_right _ hb; rw [Nat.add_mul] at this; omega
    have hg : ∀ q, q < n * w → ((addF w a b x cs i).map eNat)[0 + q]? = some (eNat ((addF w a b x cs i).getD q 0)) := fun q hq => by
      rw [Nat.zero_add, List.getElem?_map, List.getElem?_eq_getElem (by omega), ← getD_lt (d := 0)]; rfl
    refine ⟨((a * w : Nat) : Int), by rw [← wrap64_id] <;> omega, ?_⟩; (conv => whnf)
    refine ⟨((a * w + i : Nat) : Int), by rw [← wrap64_id] <;> omega, ?_⟩; (conv => whnf)
    refine ⟨((a * w : Nat) : Int), by rw [← wrap64_id] <;> omega, ?_⟩; (conv => whnf)
    refine ⟨((a * w + i : Nat) : Int), by rw [← wrap64_id] <;> omega, ?_⟩; (conv => whnf)
    refine ⟨a * w + i, rfl, by omega, ?_⟩; (conv => whnf)
    refine ⟨_, hg _ h1, ?_⟩; (conv => whnf)
    refine ⟨((b * w : Nat) : Int), by rw [← wrap64_id] <;> omega, ?_⟩; (conv => whnf)
    refine ⟨((b * w + i : Nat) : Int), by rw [← wrap64_id] <;> omega, ?_⟩; (conv => whnf)
    refine ⟨b * w + i, rfl, by omega, ?_⟩; (conv => whnf)
    refine ⟨_, hg _ h2, ?_⟩; (conv => whnf)
    refine ⟨_, _, mulSpec_c (getD_byte hbb _) hx, lendA, ?_⟩; (conv => whnf)
    refine ⟨a * w + i, rfl, by omega, ?_⟩; (conv => whnf)
    refine ⟨_, hg _ h1, ?_⟩; (conv => whnf)
    refine ⟨_, rfl, ?_⟩; (conv => whnf)
    (refine ⟨((i + 1 : Nat) : Int), by rw [← wrap64_id] <;> omega, ?_⟩; conv => whnf)
    have hr := getD_byte hbb (a * w + i)
    have hm := mulN_lt (b := x) (getD_byte hbb (b * w + i))
    have hxx : bits .xor .i64 (((addF w a b x cs i).getD (a * w + i) 0 : Nat) : Int) ((mulN ((addF w a b x cs i).getD (b * w + i) 0) x : Nat) : Int) = (((addF w a b x cs i).getD (a * w + i) 0 ^^^ mulN ((addF w a b x cs i).getD (b * w + i) 0) x : Nat) : Int) := xorN (by omega) (by omega)
    refine lg_back (i + 1) (by omega) (by (try dsimp only); omega) (weak_of allsA (all_cons rfl (all_cons (eq_row rfl ?_) (all_cons rfl all_nil))) rfl rfl)
    show ((addF w a b x cs i).map eNat).set (0 + (a * w + i)) [.lit (.int .i64 (bits .xor .i64 (((addF w a b x cs i).getD (a * w + i) 0 : Nat) : Int) ((mulN ((addF w a b x cs i).getD (b * w + i) 0) x : Nat) : Int)))] = _
    rw [hxx, Nat.zero_add]
    show ((addF w a b x cs i).map eNat).set (a * w + i) (eNat ((addF w a b x cs i).getD (a * w + i) 0 ^^^ mulN ((addF w a b x cs i).getD (b * w + i) 0) x)) = _
    rw [← List.map_set]; rfl
  · have : i = w := by omega
    subst this
    exact ⟨rfl, ⟨rfl, rfl⟩, rfl, trivial⟩
end Go.Proofs.YthdejoipdgahiaaGreatDoor
namespace Go.Proofs.YthdejoipdgahiaaGreatDoor
open Go.RowKit
set_option linter.unusedSimpArgs false
set_option linter.unusedVariables false
set_option maxRecDepth 100000
set_option maxHeartbeats 4000000
theorem swF_part {f : List Nat → List Nat} (hf : Part f) {n w c p : Nat} {L : List (List Nat)} (h : RowsOk n w (L.map f)) (hc : c < n) (hp : p < n) : swF w p c (L.map f).flatten w = ((swR L c p).map f).flatten := by
  have h1 := h.rl hc
  have h2 := h.rl hp
  rw [swF_eq h hp hc w (Nat.le_refl w), ← sw_map hf, swR]
  conv => lhs; rw [List.take_of_length_le (by omega), List.take_of_length_le (by omega), List.drop_of_length_le (by omega), List.drop_of_length_le (by omega), List.append_nil, List.append_nil]
theorem addF_part {f : List Nat → List Nat} (hf : Part f) {n w a b y : Nat} {L : List (List Nat)} (h : RowsOk n w (L.map f)) (ha : a < n) (hb : b < n) (hy : y < 256) : addF w a b y (L.map f).flatten w = ((L.set a (addR (rw' L a) (rw' L b) y)).map f).flatten := by
  have h1 := h.rl ha
  have h2 := h.rl hb
  rw [addF_eq h ha hb hy w (Nat.le_refl w), ← elim_part hf, List.take_of_length_le (by rw [addR_len (by omega)]; omega), List.drop_of_length_le (by omega), List.append_nil]
theorem sclF_part {f : List Nat → List Nat} (hf : Part f) {n w c x : Nat} {L : List (List Nat)} (h : RowsOk n w (L.map f)) (hc : c < n) (hx : x < 256) : addF w c c (x ^^^ 1) (L.map f).flatten w = ((L.set c (sclR x (rw' L c))).map f).flatten := by
  have h1 := h.rl hc
  have hb := h.rb hc
  rw [addF_eq h hc hc (xor256 hx (by decide)) w (Nat.le_refl w), ← scl_part hf, addR_self hb, List.take_of_length_le (by rw [sclR_len]; omega), List.drop_of_length_le (by omega), List.append_nil]
def cm (k : Nat) (L : List (List Nat)) : List Nat := (L.map (List.take k)).flatten
def cb (k : Nat) (L : List (List Nat)) : List Nat := (L.map (List.drop k)).flatten
theorem cm_len {k : Nat} {L : List (List Nat)} (h : RowsOk k (2 * k) L) : (cm k L).length = k * k := by
  have := h.left (k := k) (by omega)
  rw [cm, flat_len' this.wid, this.len]
theorem cb_len {k : Nat} {L : List (List Nat)} (h : RowsOk k (2 * k) L) : (cb k L).length = k * k := by
  have := h.right (k := k) k
  rw [cb, flat_len' this.wid, this.len, show 2 * k - k = k by omega]
theorem RowsOk.right' {k : Nat} {L : List (List Nat)} (h : RowsOk k (2 * k) L) : RowsOk k k (L.map (List.drop k)) := by
  have := h.right (k := k) k
  rwa [show 2 * k - k = k by omega] at this
theorem RowsOk.left' {k : Nat} {L : List (List Nat)} (h : RowsOk k (2 * k) L) : RowsOk k k (L.map (List.take k)) := h.left (by omega)
theorem flat_byte {n w : Nat} {L : List (List Nat)} (h : RowsOk n w L) : ∀ x ∈ L.flatten, x < 256 := fun x hx => by
  obtain ⟨r, hr, hxr⟩ := List.mem_flatten.1 hx
  exact h.byt r hr x hxr
theorem cm_get {k : Nat} {L : List (List Nat)} (h : RowsOk k (2 * k) L) {i j : Nat} (hi : i < k) (hj : j < k) : ((cm k L).map eNat)[0 + (i * k + j)]? = some (eNat (cel L i j)) := by
  have hl := cm_len h
  have h2 := cell_le hi hj
  rw [Nat.zero_add, List.getElem?_map, List.getElem?_eq_getElem (by omega), ← getD_lt (d := 0), cm, flat_get h.left'.wid i j (by rw [List.length_map, h.len]; exact hi) hj, cel_left hj]; rfl
theorem flat1 (l : List Nat) : flatRows [(1, l.map eNat)] = true := by
  simp [flatRows, flatRow, eNat, List.all_map, Function.comp_def]
theorem piv_first {n w : Nat} {L : List (List Nat)} (h : RowsOk n w L) {c p : Nat} (h1 : c ≤ p) (h2 : p < pivR L c) (h3 : p < n) : cel L p c = 0 := by
  have hlt : p - c < (L.drop c).findIdx (fun r => decide (r.getD c 0 ≠ 0)) := by unfold pivR at h2; omega
  have := List.not_of_lt_findIdx hlt
  rw [List.getElem_drop, ← getD_lt (d := [])] at this
  have e : c + (p - c) = p := by omega
  rw [e] at this
  have h4 : ¬ (rw' L p).getD c 0 ≠ 0 := fun hne => by
    have : decide ((L.getD p []).getD c 0 ≠ 0) = true := decide_eq_true hne
    simp_all
  exact Classical.not_not.1 h4
theorem l03Steps_c {k : Nat} {M : List (List Nat)} (hk : 1 ≤ k ∧ k ≤ 8) (h : RowsOk k k M) (hn : NSR k k (cel M)) :
    MutF Tryz.prog 195 [.agg [vN k, vN k, .loc 0 0 (k * k)], .agg [vN k, vN k, .loc 1 0 (k * k)]] [(1, (cm k (augR k M)).map eNat), (1, (cb k (augR k M)).map eNat)]
      [(1, (cm k (gzR (augR k M) k)).map eNat), (1, (cb k (gzR (augR k M) k)).map eNat)] (.int .i64 (k : Int)) := by
  have hkk : k * k ≤ 8 * 8 := Nat.mul_le_mul hk.2 hk.2
  refine mutf_of_vc tb_ok mix (fn := Tryz.f195) Tryz.func195 rfl (by kernel_rfl) (by kernel_rfl) (by simp [Tryz.f195]) (by simp) (by exact nbRows_cons (nbRow_map (fun y => rfl) _) (nbRows_cons (nbRow_map (fun y => rfl) _) nbRows_nil)) (by exact nbRows_cons (nbRow_map (fun y => rfl) _) (nbRows_cons (nbRow_map (fun y => rfl) _) nbRows_nil)) rfl fun at_ => ?_
  (conv => whnf)
  refine ⟨LG (fun c : Nat => c ≤ k) (fun c => k - c) (fun c => AS.of [(2, .one (.ptr 32 0)), (3, .one (.ptr 48 0)), (5, .one (vN c)), (6, .one (vN c))] [(32, .var [vN k, vN k, .loc 0 0 (k * k)]), (48, .var [vN k, vN k, .loc 1 0 (k * k)]), (0, .row true 1 ((cm k (gzR (augR k M) c)).map eNat)), (1, .row true 1 ((cb k (gzR (augR k M) c)).map eNat)), (8, .pin 0 (at_ 0)), (9, .pin 1 (at_ 1))]),
    lg_init 0 (by omega) (weak_of allsA (all_cons rfl (all_cons rfl (all_cons rfl (all_cons rfl (all_cons rfl (all_cons rfl all_nil)))))) rfl rfl), ?_⟩
  rintro σ j ⟨c, hc, rfl, rfl⟩
  have g := gzI h hn c hc
  obtain ⟨G, hG⟩ : ∃ G, gzR (augR k M) c = G := ⟨_, rfl⟩
  have hG1 : c < k → gzR (augR k M) (c + 1) = elimR (sclL (swR G c (pivR G c)) c) c k := fun _ => by rw [gzR, stepR, hG, ← g.ok.len, hG]
  rw [hG] at g
  dsimp only
  rw [hG]
  refine ⟨_, Weak.refl _, ?_⟩
  (conv => whnf)
  (split <;> rename_i hcb <;> (try simp only [decide_eq_true_eq, decide_eq_false_iff_not, Bool.not_eq_true', Bool.not_eq_false', Bool.not_eq_true, Bool.not_eq_false, List.length_map] at hcb) <;> conv => whnf)
  · have hlt : c < k := by omega
    obtain ⟨hp1, hp2, hp3⟩ := g.piv hlt
    obtain ⟨p, hp⟩ : ∃ p, pivR G c = p := ⟨_, rfl⟩
    rw [hp] at hp1 hp2 hp3
    have g0 := g.ok
    have hz : ∀ q, c ≤ q → q < p → cel G q c = 0 := fun q h1 h2 => piv_first g0 h1 (by omega) (by omega)
    have g1 : RowsOk k (2 * k) (swR G c p) := g0.sw hlt hp2
    have hml := cm_len g0
    have hbl := cb_len g0
    have s1 : swF k p c (cm k G) k = cm k (swR G c p) := swF_part (part_take k) g0.left' hlt hp2
    have s2 : swF k p c (cb k G) k = cb k (swR G c p) := swF_part (part_drop k) g0.right' hlt hp2
    have swm := l03Swap_c (n := k) (w := k) (a := p) (b := c) (cs := cm k G) (by omega) (by omega) hml hp2 hlt
    have swb := l03Swap_c (n := k) (w := k) (a := p) (b := c) (cs := cb k G) (by omega) (by omega) hbl hp2 hlt
    rw [s1, hml] at swm
    rw [s2, hbl] at swb
    obtain ⟨S, hS⟩ : ∃ S, swR G c p = S := ⟨_, rfl⟩
    rw [hS] at g1 swm swb
    have hxb := g1.cb c c
    obtain ⟨x, hx⟩ : ∃ x, invN (cel S c c) = x := ⟨_, rfl⟩
    have hx256 : x < 256 := by rw [← hx]; exact invN_lt hxb
    have hiv := fieldInv_c hxb
    rw [hx] at hiv
    have g2 : RowsOk k (2 * k) (sclL S c) := g1.scl hlt
    have hS2 : S.set c (sclR x (rw' S c)) = sclL S c := by rw [sclL, hx]
    have t1 : addF k c c (x ^^^ 1) (cm k S) k = cm k (sclL S c) := by rw [← hS2]; exact sclF_part (part_take k) g1.left' hlt hx256
    have t2 : addF k c c (x ^^^ 1) (cb k S) k = cb k (sclL S c) := by rw [← hS2]; exact sclF_part (part_drop k) g1.right' hlt hx256
    have hml1 := cm_len g1
    have hbl1 := cb_len g1
    have sclm := l03Add_c (n := k) (w := k) (a := c) (b := c) (x := x ^^^ 1) (cs := cm k S) (by omega) (by omega) hml1 (flat_byte g1.left') hlt hlt (xor256 hx256 (by decide))
    have sclb := l03Add_c (n := k) (w := k) (a := c) (b := c) (x := x ^^^ 1) (cs := cb k S) (by omega) (by omega) hbl1 (flat_byte g1.right') hlt hlt (xor256 hx256 (by decide))
    rw [t1, hml1] at sclm
    rw [t2, hbl1] at sclb
    have cg := cm_get g1 hlt hlt
    obtain ⟨D, hD⟩ : ∃ D, sclL S c = D := ⟨_, rfl⟩
    rw [hD] at g2 sclm sclb
    have hE : gzR (augR k M) (c + 1) = elimR D c k := by rw [hG1 hlt, hp, hS, hD]
    have hcl := cell_le hlt hlt
    have hcz : c * k + k ≤ k * k := by have : (c + 1) * k ≤ k * k := Nat.mul_le_mul_right _ hlt; rw [Nat.add_mul] at this; omega
    have hx1 : bits .xor .i64 (x : Int) 1 = ((x ^^^ 1 : Nat) : Int) := xorN (b := 1) (by omega) (by decide)
    (split <;> rename_i hcb2 <;> (try simp only [decide_eq_true_eq, decide_eq_false_iff_not, Bool.not_eq_true', Bool.not_eq_false', Bool.not_eq_true, Bool.not_eq_false, List.length_map] at hcb2) <;> conv => whnf)
    · refine ⟨LG (fun q : Nat => c ≤ q ∧ q ≤ p) (fun q => p - q) (fun q => AS.of [(2, .one (.ptr 32 0)), (3, .one (.ptr 48 0)), (5, .one (vN c)), (6, .one (vN c)), (7, .one (vN q))] [(32, .var [vN k, vN k, .loc 0 0 (k * k)]), (48, .var [vN k, vN k, .loc 1 0 (k * k)]), (0, .row true 1 ((cm k G).map eNat)), (1, .row true 1 ((cb k G).map eNat)), (8, .pin 0 (at_ 0)), (9, .pin 1 (at_ 1))]),
        lg_init c ⟨Nat.le_refl c, hp1⟩ (weak_of allsA (all_cons rfl (all_cons rfl (all_cons rfl (all_cons rfl (all_cons rfl (all_cons rfl all_nil)))))) rfl rfl), ?_⟩
      rintro σ j ⟨q, ⟨hq1, hq2⟩, rfl, rfl⟩
      have hqk : q < k := by omega
      have cq := cm_get g0 hqk hlt
      have hql := cell_le hqk hlt
      have hqz : q * k + k ≤ k * k := by have : (q + 1) * k ≤ k * k := Nat.mul_le_mul_right _ hqk; rw [Nat.add_mul] at this; omega
      refine ⟨_, Weak.refl _, ?_⟩
      (conv => whnf)
      (split <;> rename_i hq3 <;> (try simp only [decide_eq_true_eq, decide_eq_false_iff_not, Bool.not_eq_true', Bool.not_eq_false', Bool.not_eq_true, Bool.not_eq_false, List.length_map] at hq3) <;> conv => whnf)
      · refine ⟨((q * k : Nat) : Int), by rw [← wrap64_id] <;> omega, ?_⟩; (conv => whnf)
        refine ⟨((q * k + c : Nat) : Int), by rw [← wrap64_id] <;> omega, ?_⟩; (conv => whnf)
        refine ⟨q * k + c, rfl, by omega, ?_⟩; (conv => whnf)
        refine ⟨_, cq, ?_⟩; (conv => whnf)
        (split <;> rename_i hq4 <;> (try simp only [decide_eq_true_eq, decide_eq_false_iff_not, Bool.not_eq_true', Bool.not_eq_false', Bool.not_eq_true, Bool.not_eq_false, List.length_map] at hq4) <;> conv => whnf)
        · have hqp : q < p := by
            rcases Nat.lt_or_ge q p with h1 | h1
            · exact h1
            · exfalso
              have : q = p := by omega
              subst this
              exact hp3 (by omega)
          (refine ⟨((q + 1 : Nat) : Int), by rw [← wrap64_id] <;> omega, ?_⟩; conv => whnf)
          exact lg_back (q + 1) ⟨by omega, by omega⟩ (by (try dsimp only); omega) (weak_of allsA (all_cons rfl (all_cons rfl (all_cons rfl (all_cons rfl (all_cons rfl (all_cons rfl all_nil)))))) rfl rfl)
        · have hqp : q = p := by
            rcases Nat.lt_or_ge q p with h1 | h1
            · exfalso
              have := hz q hq1 h1
              rw [this] at hq4
              exact hq4 rfl
            · omega
          clear cq hql hqz hq4
          obtain rfl : p = q := hqp.symm
          (split <;> rename_i hq5 <;> (try simp only [decide_eq_true_eq, decide_eq_false_iff_not, Bool.not_eq_true', Bool.not_eq_false', Bool.not_eq_true, Bool.not_eq_false, List.length_map] at hq5) <;> conv => whnf)
          · omega
          · refine ⟨[(2, .one (.ptr 32 0)), (3, .one (.ptr 48 0)), (5, .one (vN c)), (6, .one (vN c)), (7, .one (vN p)), (47, .agg [vN k, vN k, .loc 0 0 (k * k)]), (48, .one (vN (p))), (49, .one (vN (c)))], [(32, .var [vN k, vN k, .loc 0 0 (k * k)]), (48, .var [vN k, vN k, .loc 1 0 (k * k)]), (0, .row true 1 ((cm k G).map eNat)), (1, .row true 1 ((cb k G).map eNat)), (8, .pin 0 (at_ 0)), (9, .pin 1 (at_ 1))], weak_of allsA (all_cons rfl (all_cons rfl (all_cons rfl (all_cons rfl (all_cons rfl (all_cons rfl all_nil)))))) rfl rfl, _, _, _, _, [0], swm, rens_cons (ren_agg (all2_cons (ren_lit rfl) (all2_cons (ren_lit rfl) (all2_cons (ren_loc rfl rfl) all2_nil)))) (rens_cons (ren_one (ren_lit rfl)) (rens_cons (ren_one (ren_lit rfl)) rens_nil)), hasRows_cons rfl hasRows_nil, (by decide), rfl, Bool.or_eq_true_iff.2 (.inr (flat1 _)), rfl, ?_⟩; (conv => whnf)
            refine ⟨[(2, .one (.ptr 32 0)), (3, .one (.ptr 48 0)), (5, .one (vN c)), (6, .one (vN c)), (7, .one (vN p)), (51, .agg [vN k, vN k, .loc 1 0 (k * k)]), (52, .one (vN (p))), (53, .one (vN (c)))], [(32, .var [vN k, vN k, .loc 0 0 (k * k)]), (48, .var [vN k, vN k, .loc 1 0 (k * k)]), (0, .row true 1 ((cm k S).map eNat)), (1, .row true 1 ((cb k G).map eNat)), (8, .pin 0 (at_ 0)), (9, .pin 1 (at_ 1))], weak_of allsA (all_cons rfl (all_cons rfl (all_cons rfl (all_cons rfl (all_cons rfl (all_cons rfl all_nil)))))) rfl rfl, _, _, _, _, [1], swb, rens_cons (ren_agg (all2_cons (ren_lit rfl) (all2_cons (ren_lit rfl) (all2_cons (ren_loc rfl rfl) all2_nil)))) (rens_cons (ren_one (ren_lit rfl)) (rens_cons (ren_one (ren_lit rfl)) rens_nil)), hasRows_cons rfl hasRows_nil, (by decide), rfl, Bool.or_eq_true_iff.2 (.inr (flat1 _)), rfl, ?_⟩; (conv => whnf)
            refine ⟨((c * k : Nat) : Int), by rw [← wrap64_id] <;> omega, ?_⟩; (conv => whnf)
            refine ⟨((c * k + c : Nat) : Int), by rw [← wrap64_id] <;> omega, ?_⟩; (conv => whnf)
            refine ⟨c * k + c, rfl, by omega, ?_⟩; (conv => whnf)
            refine ⟨_, cg, ?_⟩; (conv => whnf)
            refine ⟨_, _, hiv, lendA, ?_⟩; (conv => whnf)
            rw [hx1]
            refine ⟨[(2, .one (.ptr 32 0)), (3, .one (.ptr 48 0)), (5, .one (vN c)), (6, .one (vN c)), (8, .one (vN x)), (66, .agg [vN k, vN k, .loc 0 0 (k * k)]), (67, .one (vN (c))), (68, .one (vN (c))), (70, .one (vN (x ^^^ 1)))], [(32, .var [vN k, vN k, .loc 0 0 (k * k)]), (48, .var [vN k, vN k, .loc 1 0 (k * k)]), (0, .row true 1 ((cm k S).map eNat)), (1, .row true 1 ((cb k S).map eNat)), (8, .pin 0 (at_ 0)), (9, .pin 1 (at_ 1))], weak_of allsA (all_cons rfl (all_cons rfl (all_cons rfl (all_cons rfl (all_cons rfl (all_cons rfl all_nil)))))) rfl rfl, _, _, _, _, [0], sclm, rens_cons (ren_agg (all2_cons (ren_lit rfl) (all2_cons (ren_lit rfl) (all2_cons (ren_loc rfl rfl) all2_nil)))) (rens_cons (ren_one (ren_lit rfl)) (rens_cons (ren_one (ren_lit rfl)) (rens_cons (ren_one (ren_lit rfl)) rens_nil))), hasRows_cons rfl hasRows_nil, (by decide), rfl, Bool.or_eq_true_iff.2 (.inr (flat1 _)), rfl, ?_⟩; (conv => whnf)
            rw [hx1]
            refine ⟨[(2, .one (.ptr 32 0)), (3, .one (.ptr 48 0)), (5, .one (vN c)), (6, .one (vN c)), (72, .agg [vN k, vN k, .loc 1 0 (k * k)]), (73, .one (vN (c))), (74, .one (vN (c))), (76, .one (vN (x ^^^ 1)))], [(32, .var [vN k, vN k, .loc 0 0 (k * k)]), (48, .var [vN k, vN k, .loc 1 0 (k * k)]), (0, .row true 1 ((cm k D).map eNat)), (1, .row true 1 ((cb k S).map eNat)), (8, .pin 0 (at_ 0)), (9, .pin 1 (at_ 1))], weak_of allsA (all_cons rfl (all_cons rfl (all_cons rfl (all_cons rfl (all_cons rfl (all_cons rfl all_nil)))))) rfl rfl, _, _, _, _, [1], sclb, rens_cons (ren_agg (all2_cons (ren_lit rfl) (all2_cons (ren_lit rfl) (all2_cons (ren_loc rfl rfl) all2_nil)))) (rens_cons (ren_one (ren_lit rfl)) (rens_cons (ren_one (ren_lit rfl)) (rens_cons (ren_one (ren_lit rfl)) rens_nil))), hasRows_cons rfl hasRows_nil, (by decide), rfl, Bool.or_eq_true_iff.2 (.inr (flat1 _)), rfl, ?_⟩; (conv => whnf)
            refine ⟨LG (fun i : Nat => i ≤ k) (fun i => k - i) (fun i => AS.of [(2, .one (.ptr 32 0)), (3, .one (.ptr 48 0)), (5, .one (vN c)), (6, .one (vN c)), (9, .one (vN i))] [(32, .var [vN k, vN k, .loc 0 0 (k * k)]), (48, .var [vN k, vN k, .loc 1 0 (k * k)]), (0, .row true 1 ((cm k (elimR D c i)).map eNat)), (1, .row true 1 ((cb k (elimR D c i)).map eNat)), (8, .pin 0 (at_ 0)), (9, .pin 1 (at_ 1))]),
            lg_init 0 (by omega) (weak_of allsA (all_cons rfl (all_cons rfl (all_cons rfl (all_cons rfl (all_cons rfl (all_cons rfl all_nil)))))) rfl rfl), ?_⟩
            rintro σ j ⟨i, hi, rfl, rfl⟩
            obtain ⟨E, hE'⟩ : ∃ E, elimR D c i = E := ⟨_, rfl⟩
            have g3 : RowsOk k (2 * k) E := hE' ▸ g2.elim hlt i hi
            have hml3 := cm_len g3
            have hbl3 := cb_len g3
            have hy256 := g3.cb i c
            dsimp only
            rw [hE']
            by_cases hik : i < k
            · have ci := cm_get g3 hik hlt
              have hil := cell_le hik hlt
              have hiz : i * k + k ≤ k * k := by have : (i + 1) * k ≤ k * k := Nat.mul_le_mul_right _ hik; rw [Nat.add_mul] at this; omega
              by_cases hic : i = c
              · have hE3 : elimR D c (i + 1) = E := by rw [elimR, if_pos hic, hE']
                refine ⟨_, Weak.refl _, ?_⟩
                (conv => whnf)
                (split <;> rename_i h <;> (try simp only [decide_eq_true_eq, decide_eq_false_iff_not, Bool.not_eq_true', Bool.not_eq_false', Bool.not_eq_true, Bool.not_eq_false, List.length_map] at h) <;> conv => whnf)
                · (split <;> rename_i h' <;> (try simp only [decide_eq_true_eq, decide_eq_false_iff_not, Bool.not_eq_true', Bool.not_eq_false', Bool.not_eq_true, Bool.not_eq_false, List.length_map] at h') <;> conv => whnf)
                  · omega
                  · (refine ⟨((i + 1 : Nat) : Int), by rw [← wrap64_id] <;> omega, ?_⟩; conv => whnf)
                    exact lg_back (i + 1) (by omega) (by (try dsimp only); omega) (weak_of allsA (all_cons rfl (all_cons rfl (all_cons (eq_row rfl (by rw [hE3])) (all_cons (eq_row rfl (by rw [hE3])) (all_cons rfl (all_cons rfl all_nil)))))) rfl rfl)
                · omega
              · have hE3 : elimR D c (i + 1) = E.set i (addR (rw' E i) (rw' E c) (cel E i c)) := by rw [elimR, if_neg hic, hE']
                have a1 := l03Add_c (n := k) (w := k) (a := i) (b := c) (x := cel E i c) (cs := cm k E) (by omega) (by omega) hml3 (flat_byte g3.left') hik hlt hy256
                have a2 := l03Add_c (n := k) (w := k) (a := i) (b := c) (x := cel E i c) (cs := cb k E) (by omega) (by omega) hbl3 (flat_byte g3.right') hik hlt hy256
                have t3 : addF k i c (cel E i c) (cm k E) k = cm k (elimR D c (i + 1)) := by rw [hE3]; exact addF_part (part_take k) g3.left' hik hlt hy256
                have t4 : addF k i c (cel E i c) (cb k E) k = cb k (elimR D c (i + 1)) := by rw [hE3]; exact addF_part (part_drop k) g3.right' hik hlt hy256
                rw [t3, hml3] at a1
                rw [t4, hbl3] at a2
                refine ⟨_, Weak.refl _, ?_⟩
                (conv => whnf)
                (split <;> rename_i h <;> (try simp only [decide_eq_true_eq, decide_eq_false_iff_not, Bool.not_eq_true', Bool.not_eq_false', Bool.not_eq_true, Bool.not_eq_false, List.length_map] at h) <;> conv => whnf)
                · (split <;> rename_i h' <;> (try simp only [decide_eq_true_eq, decide_eq_false_iff_not, Bool.not_eq_true', Bool.not_eq_false', Bool.not_eq_true, Bool.not_eq_false, List.length_map] at h') <;> conv => whnf)
                  · refine ⟨((i * k : Nat) : Int), by rw [← wrap64_id] <;> omega, ?_⟩; (conv => whnf)
                    refine ⟨((i * k + c : Nat) : Int), by rw [← wrap64_id] <;> omega, ?_⟩; (conv => whnf)
                    refine ⟨i * k + c, rfl, by omega, ?_⟩; (conv => whnf)
                    refine ⟨_, ci, ?_⟩; (conv => whnf)
                    refine ⟨[(2, .one (.ptr 32 0)), (3, .one (.ptr 48 0)), (5, .one (vN c)), (6, .one (vN c)), (9, .one (vN i)), (10, .one (vN (cel E i c))), (97, .agg [vN k, vN k, .loc 0 0 (k * k)]), (98, .one (vN (i))), (99, .one (vN (c))), (100, .one (vN (cel E i c)))], [(32, .var [vN k, vN k, .loc 0 0 (k * k)]), (48, .var [vN k, vN k, .loc 1 0 (k * k)]), (0, .row true 1 ((cm k E).map eNat)), (1, .row true 1 ((cb k E).map eNat)), (8, .pin 0 (at_ 0)), (9, .pin 1 (at_ 1))], weak_of allsA (all_cons rfl (all_cons rfl (all_cons rfl (all_cons rfl (all_cons rfl (all_cons rfl all_nil)))))) rfl rfl, _, _, _, _, [0], a1, rens_cons (ren_agg (all2_cons (ren_lit rfl) (all2_cons (ren_lit rfl) (all2_cons (ren_loc rfl rfl) all2_nil)))) (rens_cons (ren_one (ren_lit rfl)) (rens_cons (ren_one (ren_lit rfl)) (rens_cons (ren_one (ren_lit rfl)) rens_nil))), hasRows_cons rfl hasRows_nil, (by decide), rfl, Bool.or_eq_true_iff.2 (.inr (flat1 _)), rfl, ?_⟩; (conv => whnf)
                    refine ⟨[(2, .one (.ptr 32 0)), (3, .one (.ptr 48 0)), (5, .one (vN c)), (6, .one (vN c)), (9, .one (vN i)), (102, .agg [vN k, vN k, .loc 1 0 (k * k)]), (103, .one (vN (i))), (104, .one (vN (c))), (105, .one (vN (cel E i c)))], [(32, .var [vN k, vN k, .loc 0 0 (k * k)]), (48, .var [vN k, vN k, .loc 1 0 (k * k)]), (0, .row true 1 ((cm k (elimR D c (i + 1))).map eNat)), (1, .row true 1 ((cb k E).map eNat)), (8, .pin 0 (at_ 0)), (9, .pin 1 (at_ 1))], weak_of allsA (all_cons rfl (all_cons rfl (all_cons rfl (all_cons rfl (all_cons rfl (all_cons rfl all_nil)))))) rfl rfl, _, _, _, _, [1], a2, rens_cons (ren_agg (all2_cons (ren_lit rfl) (all2_cons (ren_lit rfl) (all2_cons (ren_loc rfl rfl) all2_nil)))) (rens_cons (ren_one (ren_lit rfl)) (rens_cons (ren_one (ren_lit rfl)) (rens_cons (ren_one (ren_lit rfl)) rens_nil))), hasRows_cons rfl hasRows_nil, (by decide), rfl, Bool.or_eq_true_iff.2 (.inr (flat1 _)), rfl, ?_⟩; (conv => whnf)
                    (refine ⟨((i + 1 : Nat) : Int), by rw [← wrap64_id] <;> omega, ?_⟩; conv => whnf)
                    exact lg_back (i + 1) (by omega) (by (try dsimp only); omega) (weak_of allsA (all_cons rfl (all_cons rfl (all_cons rfl (all_cons rfl (all_cons rfl (all_cons rfl all_nil)))))) rfl rfl)
                  · omega
                · omega
            · have hik2 : i = k := by omega
              subst hik2
              refine ⟨_, Weak.refl _, ?_⟩
              (conv => whnf)
              (split <;> rename_i h <;> (try simp only [decide_eq_true_eq, decide_eq_false_iff_not, Bool.not_eq_true', Bool.not_eq_false', Bool.not_eq_true, Bool.not_eq_false, List.length_map] at h) <;> conv => whnf)
              · omega
              · (refine ⟨((c + 1 : Nat) : Int), by rw [← wrap64_id] <;> omega, ?_⟩; conv => whnf)
                (refine ⟨((c + 1 : Nat) : Int), by rw [← wrap64_id] <;> omega, ?_⟩; conv => whnf)
                refine lg_back (c + 1) (by omega) (by (try dsimp only); omega) (weak_of allsA (all_cons rfl (all_cons rfl (all_cons (eq_row rfl (by rw [hE, ← hE'])) (all_cons (eq_row rfl (by rw [hE, ← hE'])) (all_cons rfl (all_cons rfl all_nil)))))) rfl rfl)
      · omega
    · omega
  · have : c = k := by omega
    subst this
    refine ⟨rfl, ⟨rfl, ?_⟩, rfl, ⟨rfl, ?_⟩, rfl, trivial⟩
    · rw [hG]
    · rw [hG]
end Go.Proofs.YthdejoipdgahiaaGreatDoor
namespace Go.Proofs.YthdejoipdgahiaaGreatDoor
open Go.RowKit
set_option linter.unusedSimpArgs false
set_option linter.unusedVariables false
theorem split_at {α : Type} {es : List α} {i : Nat} {x : α} (h : es[i]? = some x) : es = es.take i ++ x :: es.drop (i + 1) ∧ (∀ y, es.set i y = es.take i ++ y :: es.drop (i + 1)) ∧ (es.take i).length = i := by
  obtain ⟨hi, rfl⟩ := List.getElem?_eq_some_iff.1 h
  exact ⟨by rw [← List.drop_eq_getElem_cons hi, List.take_append_drop], fun y => by rw [List.set_eq_take_append_cons_drop, if_pos hi], by rw [List.length_take]; omega⟩
theorem weak_focus_at {τ : AS} {tl : List (Nat × T)} {ml : List (Nat × Blk)} (r s i : Nat) {sz2 : Nat} {p : Bool} {es es2 : List (List AV)}
    (hst : (tl.all fun p => p.2.safe) = true) (hsm : (ml.all fun p => p.2.safe) = true) (hn : nbRow es2 = true)
    (hr : lkM ml r = some (.row p 1 es)) (hi : es[i]? = some [.row true sz2 es2]) (hs : lkM ml s = none)
    (hw : Weak (AS.of tl ((r, .row false 1 (es.set i [.loc s 0 es2.length])) :: (s, .row true sz2 es2) :: ml)) τ) : Weak (AS.of tl ml) τ := by
  obtain ⟨h1, h2, _⟩ := split_at hi
  refine weak_focus (p := p) (sz := 1) (sz2 := sz2) (es2 := es2) r s (es.take i) (es.drop (i + 1)) [] [] hst hsm hn (by rw [hr]; exact congrArg (fun z => some (Blk.row p 1 z)) h1) hs ?_
  rw [h2] at hw
  exact hw
theorem weak_absorb_at {σ τ : AS} (r s i : Nat) {sz2 : Nat} {p : Bool} (p' : Bool) {es es2 : List (List AV)} (hne : r ≠ s)
    (hr : σ.mem r = some (.row p 1 es)) (hi : es[i]? = some [.loc s 0 es2.length]) (hs : σ.mem s = some (.row true sz2 es2))
    (hno : ∀ j e, j ≠ i → es[j]? = some e → ∃ x, e = [x] ∧ x.noref s = true ∧ (p' = true → x.isCell = true))
    (hw : Weak ((σ.drop s).set r (.row p' 1 (es.set i [.row true sz2 es2]))) τ) : Weak σ τ := by
  obtain ⟨h1, h2, h3⟩ := split_at hi
  have key : ∀ (i' j : Nat) (x : AV), ¬ (i' = (es.take i).length ∧ j = ([] : List AV).length) → elt (es.take i ++ ([] ++ .loc s 0 es2.length :: []) :: es.drop (i + 1)) i' j = some x → x.noref s = true ∧ (p' = true → x.isCell = true) := by
    intro i' j x hn hx
    have hx' : elt es i' j = some x := by
      rw [← hx]; exact congrArg (fun z => elt z i' j) h1
    unfold elt at hx'
    cases he : es[i']? with
    | none => simp [he] at hx'
    | some e =>
      simp only [he, Option.bind_some] at hx'
      by_cases e1 : i' = i
      · subst e1
        rw [hi] at he
        cases he
        have hj : j < 1 := by simpa using (List.getElem?_eq_some_iff.1 hx').1
        exact absurd ⟨h3.symm, by simp; omega⟩ hn
      · obtain ⟨y, rfl, h4⟩ := hno i' e e1 he
        have hj : j = 0 := by have : j < 1 := by simpa using (List.getElem?_eq_some_iff.1 hx').1
                              omega
        subst hj
        simp at hx'
        subst hx'
        exact h4
  rintro w0 L n a w ⟨c, F, h⟩
  obtain ⟨c', F', h'⟩ := h.absorb (p' := p') (sz := 1) (A := es.take i) (B := es.drop (i + 1)) (e1 := []) (e2 := []) hne (by rw [hr]; exact congrArg (fun z => some (Blk.row p 1 z)) h1) hs (fun i' j x hn hx => (key i' j x hn hx).1) (fun hp i' j x hn hx => (key i' j x hn hx).2 hp)
  rw [h2] at hw
  exact hw _ _ _ _ _ ⟨c', F', h'⟩
def dimL : List AV → List AV → Prop
  | [], [] => True
  | x :: xs, y :: ys => (y = x ∨ y = .dead) ∧ dimL xs ys
  | _, _ => False
theorem RL.dim {c : Ctx} {w : World} : ∀ {xs ys : List AV} {vs : List Value}, RL c w xs vs → dimL xs ys → RL c w ys vs
  | [], [], _, h, _ => h
  | x :: xs, y :: ys, v :: vs, h, hd => by
    refine ⟨?_, RL.dim h.2 hd.2⟩
    rcases hd.1 with rfl | rfl
    · exact h.1
    · exact ⟨.dead v, h.1.2⟩
theorem weak_dim {σ τ : AS} (r : Nat) (xs ys : List AV) (hr : σ.mem r = some (.var xs)) (hd : dimL xs ys) (hw : Weak (σ.set r (.var ys)) τ) : Weak σ τ := by
  rintro w0 L n a w ⟨c, F, h⟩
  have hb := h.mem r _ hr
  refine hw _ _ _ _ _ ⟨_, _, h.setBlk (k' := .var ys) hr (fun _ h => h) (fun _ _ => rfl) rfl rfl rfl rfl ?_⟩
  obtain ⟨b, C, e, fz, a1, a2, a3, a4, a5⟩ := hb
  exact ⟨b, C, e, fz, a1, a2, a3, a4.dim hd, a5⟩
end Go.Proofs.YthdejoipdgahiaaGreatDoor
namespace Go.Proofs.YthdejoipdgahiaaGreatDoor
def tbO36 : Tab := tbF [(1000012, .none), (1000013, .none), (12, .take 0 (.take 1 (.take 2 (.take 3 (.take 5 (.take 6 (.take 7 (.take 9 (.alt 4 (.take 26 (.alt 8 (.alt 10 (.take 11 (.take 12 (.take 13 (.take 14 (.take 16 (.alt 15 (.alt 17 (.take 18 (.take 19 (.take 20 (.take 21 (.take 23 (.alt 22 (.seq [24, 25, 27, 28, 29]) (.alt 27 (.seq [22, 24, 25, 28, 29]) (.none)))))))) (.none)) (.alt 17 (.alt 15 (.take 18 (.take 19 (.take 20 (.take 21 (.take 23 (.alt 22 (.seq [24, 25, 27, 28, 29]) (.alt 27 (.seq [22, 24, 25, 28, 29]) (.none)))))))) (.none)) (.none)))))))) (.none)) (.alt 10 (.alt 8 (.take 11 (.take 12 (.take 13 (.take 14 (.take 16 (.alt 15 (.alt 17 (.take 18 (.take 19 (.take 20 (.take 21 (.take 23 (.alt 22 (.seq [24, 25, 27, 28, 29]) (.alt 27 (.seq [22, 24, 25, 28, 29]) (.none)))))))) (.none)) (.alt 17 (.alt 15 (.take 18 (.take 19 (.take 20 (.take 21 (.take 23 (.alt 22 (.seq [24, 25, 27, 28, 29]) (.alt 27 (.seq [22, 24, 25, 28, 29]) (.none)))))))) (.none)) (.none)))))))) (.none)) (.none)))) (.alt 8 (.alt 4 (.take 26 (.alt 10 (.take 11 (.take 12 (.take 13 (.take 14 (.take 16 (.alt 15 (.alt 17 (.take 18 (.take 19 (.take 20 (.take 21 (.take 23 (.alt 22 (.seq [24, 25, 27, 28, 29]) (.alt 27 (.seq [22, 24, 25, 28, 29]) (.none)))))))) (.none)) (.alt 17 (.alt 15 (.take 18 (.take 19 (.take 20 (.take 21 (.take 23 (.alt 22 (.seq [24, 25, 27, 28, 29]) (.alt 27 (.seq [22, 24, 25, 28, 29]) (.none)))))))) (.none)) (.none)))))))) (.none))) (.alt 10 (.take 11 (.take 12 (.take 13 (.take 14 (.take 16 (.alt 4 (.take 26 (.alt 15 (.alt 17 (.take 18 (.take 19 (.take 20 (.take 21 (.take 23 (.alt 22 (.seq [24, 25, 27, 28, 29]) (.alt 27 (.seq [22, 24, 25, 28, 29]) (.none)))))))) (.none)) (.alt 17 (.alt 15 (.take 18 (.take 19 (.take 20 (.take 21 (.take 23 (.alt 22 (.seq [24, 25, 27, 28, 29]) (.alt 27 (.seq [22, 24, 25, 28, 29]) (.none)))))))) (.none)) (.none)))) (.alt 15 (.alt 4 (.take 26 (.alt 17 (.take 18 (.take 19 (.take 20 (.take 21 (.take 23 (.alt 22 (.seq [24, 25, 27, 28, 29]) (.alt 27 (.seq [22, 24, 25, 28, 29]) (.none)))))))) (.none))) (.alt 17 (.take 18 (.take 19 (.take 20 (.take 21 (.take 23 (.alt 4 (.take 26 (.alt 22 (.seq [24, 25, 27, 28, 29]) (.alt 27 (.seq [22, 24, 25, 28, 29]) (.none)))) (.alt 22 (.seq [24, 25, 4, 26, 27, 28, 29]) (.none)))))))) (.none))) (.alt 17 (.alt 4 (.take 26 (.alt 15 (.take 18 (.take 19 (.take 20 (.take 21 (.take 23 (.alt 22 (.seq [24, 25, 27, 28, 29]) (.alt 27 (.seq [22, 24, 25, 28, 29]) (.none)))))))) (.none))) (.alt 15 (.take 18 (.take 19 (.take 20 (.take 21 (.take 23 (.alt 4 (.take 26 (.alt 22 (.seq [24, 25, 27, 28, 29]) (.alt 27 (.seq [22, 24, 25, 28, 29]) (.none)))) (.alt 22 (.seq [24, 25, 4, 26, 27, 28, 29]) (.none)))))))) (.none))) (.none))))))))) (.none))) (.alt 10 (.alt 4 (.take 26 (.alt 8 (.take 11 (.take 12 (.take 13 (.take 14 (.take 16 (.alt 15 (.alt 17 (.take 18 (.take 19 (.take 20 (.take 21 (.take 23 (.alt 22 (.seq [24, 25, 27, 28, 29]) (.alt 27 (.seq [22, 24, 25, 28, 29]) (.none)))))))) (.none)) (.alt 17 (.alt 15 (.take 18 (.take 19 (.take 20 (.take 21 (.take 23 (.alt 22 (.seq [24, 25, 27, 28, 29]) (.alt 27 (.seq [22, 24, 25, 28, 29]) (.none)))))))) (.none)) (.none)))))))) (.none))) (.alt 8 (.take 11 (.take 12 (.take 13 (.take 14 (.take 16 (.alt 4 (.take 26 (.alt 15 (.alt 17 (.take 18 (.take 19 (.take 20 (.take 21 (.take 23 (.alt 22 (.seq [24, 25, 27, 28, 29]) (.alt 27 (.seq [22, 24, 25, 28, 29]) (.none)))))))) (.none)) (.alt 17 (.alt 15 (.take 18 (.take 19 (.take 20 (.take 21 (.take 23 (.alt 22 (.seq [24, 25, 27, 28, 29]) (.alt 27 (.seq [22, 24, 25, 28, 29]) (.none)))))))) (.none)) (.none)))) (.alt 15 (.alt 4 (.take 26 (.alt 17 (.take 18 (.take 19 (.take 20 (.take 21 (.take 23 (.alt 22 (.seq [24, 25, 27, 28, 29]) (.alt 27 (.seq [22, 24, 25, 28, 29]) (.none)))))))) (.none))) (.alt 17 (.take 18 (.take 19 (.take 20 (.take 21 (.take 23 (.alt 4 (.take 26 (.alt 22 (.seq [24, 25, 27, 28, 29]) (.alt 27 (.seq [22, 24, 25, 28, 29]) (.none)))) (.alt 22 (.seq [24, 25, 4, 26, 27, 28, 29]) (.none)))))))) (.none))) (.alt 17 (.alt 4 (.take 26 (.alt 15 (.take 18 (.take 19 (.take 20 (.take 21 (.take 23 (.alt 22 (.seq [24, 25, 27, 28, 29]) (.alt 27 (.seq [22, 24, 25, 28, 29]) (.none)))))))) (.none))) (.alt 15 (.take 18 (.take 19 (.take 20 (.take 21 (.take 23 (.alt 4 (.take 26 (.alt 22 (.seq [24, 25, 27, 28, 29]) (.alt 27 (.seq [22, 24, 25, 28, 29]) (.none)))) (.alt 22 (.seq [24, 25, 4, 26, 27, 28, 29]) (.none)))))))) (.none))) (.none))))))))) (.none))) (.none)))))))))))), (28, .take 0 (.take 1 (.take 3 (.take 5 (.alt 2 (.alt 4 (.seq [6, 7, 8, 9, 10, 11, 12]) (.alt 6 (.take 7 (.alt 4 (.seq [8, 9, 10, 11, 12]) (.alt 8 (.seq [4, 9, 10, 11, 12]) (.none)))) (.none))) (.alt 4 (.alt 2 (.seq [6, 7, 8, 9, 10, 11, 12]) (.alt 6 (.seq [2, 7, 8, 9, 10, 11, 12]) (.none))) (.alt 6 (.alt 2 (.take 7 (.alt 4 (.seq [8, 9, 10, 11, 12]) (.alt 8 (.seq [4, 9, 10, 11, 12]) (.none)))) (.alt 4 (.seq [2, 7, 8, 9, 10, 11, 12]) (.none))) (.none))))))))]
def tbO70 : Tab := tbF [(17, .seq [0, 1, 2, 3, 4, 5, 6, 7, 8, 11, 12, 13, 14, 15, 16, 9, 10, 17, 18, 19, 20])]
def tbO103 : Tab := tbF [(7, .take 0 (.take 1 (.take 4 (.take 5 (.alt 2 (.alt 3 (.seq [6, 7, 8, 9, 10]) (.alt 6 (.alt 3 (.seq [7, 8, 9, 10]) (.alt 7 (.seq [3, 8, 9, 10]) (.none))) (.none))) (.alt 6 (.alt 2 (.alt 3 (.seq [7, 8, 9, 10]) (.alt 7 (.seq [3, 8, 9, 10]) (.none))) (.alt 7 (.seq [2, 3, 8, 9, 10]) (.none))) (.none)))))))]
def tbO119 : Tab := tbF [(1, .seq [1, 4, 6, 8, 10, 11, 0, 2, 3, 5, 7, 9, 12, 13, 14, 15])]
def tbO174 : Tab := tbF [(4, .take 4 (.alt 0 (.alt 1 (.alt 2 (.alt 3 (.seq [5, 6]) (.alt 5 (.seq [3, 6]) (.none))) (.alt 5 (.seq [2, 3, 6]) (.none))) (.alt 2 (.alt 1 (.alt 3 (.seq [5, 6]) (.alt 5 (.seq [3, 6]) (.none))) (.alt 5 (.seq [1, 3, 6]) (.none))) (.alt 5 (.seq [1, 2, 3, 6]) (.none)))) (.alt 2 (.alt 0 (.alt 1 (.alt 3 (.seq [5, 6]) (.alt 5 (.seq [3, 6]) (.none))) (.alt 5 (.seq [1, 3, 6]) (.none))) (.alt 5 (.seq [0, 1, 3, 6]) (.none))) (.alt 5 (.seq [0, 1, 2, 3, 6]) (.none)))))]
end Go.Proofs.YthdejoipdgahiaaGreatDoor
namespace Go.Proofs.YthdejoipdgahiaaGreatDoor
open Go.RowKit
set_option linter.unusedSimpArgs false
set_option linter.unusedVariables false
set_option maxRecDepth 100000
set_option maxHeartbeats 4000000
abbrev rB (p : Bool × List Nat) : List AV := [.row p.1 1 (p.2.map fun n => [vN n])]
theorem concatB_c (ps : List (Bool × List Nat)) (rs : List (List Nat)) (hrs : rs = ps.map Prod.snd) (h1 : ps.length ≤ 4294967296) (h2 : rs.flatten.length ≤ 4294967296) : Fun1 Tryz.prog 153 [.one (.row true 1 (ps.map rB))] (.one (.row true 1 (rs.flatten.map fun n => [vN n]))) := by
  have hps : ps.length = rs.length := by rw [hrs, List.length_map]
  have hpi : ∀ i (h : i < rs.length), rs[i] = (ps[i]'(by omega)).2 := fun i h => by subst hrs; rw [List.getElem_map]
  refine fun1_of_vc tb_ok mix (fn := Tryz.f153) Tryz.func153 rfl (by kernel_rfl) (by kernel_rfl) (by simp [Tryz.f153]) (by show AV.nb (4 + 1) _ = true; exact nb_map (n := 4) (fun y => rfl) _) ?_
  (conv => whnf)
  refine ⟨LG (fun i : Nat => i ≤ ps.length) (fun i => ps.length - i) (fun i => AS.of [(0, .one (.row true 1 (ps.map rB))), (3, .one (vN (rs.take i).flatten.length)), (9, .one (.row true 1 (ps.map rB))), (10, .one (vN ps.length)), (11, .one (vN i))] []), lg_init 0 (by omega) (weak_of (all_cons rfl (all_cons (eq_int rfl (by simp)) (all_cons rfl (all_cons (eq_int rfl (by simp)) (all_cons rfl all_nil))))) all_nil rfl rfl), ?_⟩
  rintro σ k ⟨i, hi, rfl, rfl⟩
  have hle := flat_take_le rs i
  have hle1 := flat_take_le rs (i + 1)
  refine ⟨_, Weak.refl _, ?_⟩
  (conv => whnf)
  (split <;> rename_i h <;> (try simp only [decide_eq_true_eq, decide_eq_false_iff_not, Bool.not_eq_true', Bool.not_eq_false', Bool.not_eq_true, Bool.not_eq_false, List.length_map] at h) <;> conv => whnf)
  · have hlt : i < ps.length := by omega
    have hfs : (rs.take (i + 1)).flatten = (rs.take i).flatten ++ ps[i].2 := by rw [flat_take_succ (show i < rs.length by omega), hpi i (by omega)]
    have hl2 : (rs.take (i + 1)).flatten.length = (rs.take i).flatten.length + ps[i].2.length := by rw [hfs, List.length_append]
    refine ⟨i, rfl, _, at_map hlt, ?_⟩; (conv => whnf)
    refine ⟨((rs.take (i + 1)).flatten.length : Nat), by rw [← wrap64_id] <;> simp only [List.length_map] <;> omega, ?_⟩; (conv => whnf)
    (refine ⟨((i + 1 : Nat) : Int), by rw [← wrap64_id] <;> omega, ?_⟩; conv => whnf)
    exact lg_back (i + 1) (by omega) (by (try dsimp only); omega) (weak_of (all_cons rfl (all_cons rfl (all_cons rfl (all_cons rfl (all_cons rfl all_nil))))) all_nil rfl rfl)
  · have : i = ps.length := by omega
    subst this
    refine ⟨_, _, grow_c (rs.take ps.length).flatten.length (by omega), lendA, ?_⟩; (conv => whnf)
    refine ⟨LG (fun i : Nat => i ≤ ps.length) (fun i => ps.length - i) (fun i => AS.of [(6, .one (.loc 384 0 (rs.take i).flatten.length)), (25, .one (.row true 1 (ps.map rB))), (26, .one (vN ps.length)), (27, .one (vN i))] [(384, .row true 1 ((rs.take i).flatten.map fun n => [vN n]))]), lg_init 0 (by omega) (weak_of (all_cons rfl (all_cons rfl (all_cons (eq_int rfl (by simp)) (all_cons rfl all_nil)))) (all_cons rfl all_nil) rfl rfl), ?_⟩
    rintro σ k ⟨i, hi, rfl, rfl⟩
    have hle := flat_take_le rs i
    have hle1 := flat_take_le rs (i + 1)
    refine ⟨_, Weak.refl _, ?_⟩
    (conv => whnf)
    (split <;> rename_i h <;> (try simp only [decide_eq_true_eq, decide_eq_false_iff_not, Bool.not_eq_true', Bool.not_eq_false', Bool.not_eq_true, Bool.not_eq_false, List.length_map] at h) <;> conv => whnf)
    · have hlt : i < ps.length := by omega
      have hfs : (rs.take (i + 1)).flatten = (rs.take i).flatten ++ ps[i].2 := by rw [flat_take_succ (show i < rs.length by omega), hpi i (by omega)]
      have hl2 : (rs.take (i + 1)).flatten.length = (rs.take i).flatten.length + ps[i].2.length := by rw [hfs, List.length_append]
      refine ⟨i, rfl, _, at_map hlt, ?_⟩; (conv => whnf)
      refine ⟨true, ps[i].2.map (fun n => [vN n]), ⟨rfl, rfl, rfl⟩, ?_⟩; (conv => whnf)
      refine ⟨_, laid_map (f := fun n => [vN n]) (fun _ => rfl) ps[i].2, rfl, by rw [List.length_map], rfl, by simp only [maxLen, List.length_map]; omega, by simp only [List.length_map]; omega, ?_⟩; (conv => whnf)
      (refine ⟨((i + 1 : Nat) : Int), by rw [← wrap64_id] <;> omega, ?_⟩; conv => whnf)
      exact lg_back (i + 1) (by omega) (by (try dsimp only); omega) (weak_of (all_cons (eq_loc rfl (by rw [hl2, List.length_map, List.length_map])) (all_cons rfl (all_cons rfl (all_cons rfl all_nil)))) (all_cons (eq_row rfl (by rw [hfs, List.map_append])) all_nil) rfl rfl)
    · have : i = ps.length := by omega
      subst this
      exact ⟨close_row rfl rfl (by rw [List.length_map]) (by rw [hps, List.take_length]), trivial⟩
theorem call_weak {P : Program} {f : FuncId} {args : List Operand} {σ σ1 σ' : AS} {t : T} (hw : Weak σ σ1) (h : CallOk P f args σ1 σ' t) : CallOk P f args σ σ' t := ⟨h.1, fun _ _ _ _ _ h0 => h.2 _ _ _ _ _ (hw _ _ _ _ _ h0)⟩
theorem flat_row : ∀ {L : List (List Nat)} {w : Nat}, (∀ r ∈ L, r.length = w) → ∀ i, i < L.length → (L.flatten.drop (i * w)).take w = rw' L i
  | [], _, _, _, h => by simp at h
  | r :: L, w, h, 0, _ => by
    have hr := h r (by simp)
    rw [List.flatten_cons, Nat.zero_mul, List.drop_zero, List.take_left' hr]; rfl
  | r :: L, w, h, i + 1, hi => by
    have hr := h r (by simp)
    rw [List.flatten_cons, show (i + 1) * w = r.length + i * w by rw [Nat.add_mul, hr]; omega, List.drop_append, List.drop_of_length_le (by omega), List.nil_append, show r.length + i * w - r.length = i * w by omega,
      flat_row (fun r hr => h r (by simp [hr])) i (by simpa using hi)]; rfl
def tbR : Tab := tbF [(13, .seq [0, 1, 2, 3, 4, 5, 6, 7, 8, 9, 10, 12, 13, 14, 11, 15, 16, 17, 18, 19]), (1000013, .none), (1000024, .none)]
def augI (k : Nat) (M : List (List Nat)) (i : Nat) : List (List Nat) := (List.range i).map fun j => rw' M j ++ unitR j k
theorem swap_list {α : Type} (l : List α) {c p : Nat} (h : ¬ p = c) (a b y : α) : ((((l.set c a).set p b).set c b).set p a).set p y = (l.set c b).set p y := by
  rw [List.set_set, List.set_comm _ _ h, List.set_set, List.set_set]
theorem nb_row1 (r : List Nat) : (rN r).all (AV.nb 5) = true := by
  have : AV.nb (4 + 1) (.row true 1 (r.map eNat)) = true := nb_map (n := 4) (fun y => rfl) _
  simp only [List.all_cons, List.all_nil, Bool.and_true]; exact this
theorem rows_nb (L : List (List Nat)) : nbRow (L.map rN) = true := nbRow_map nb_row1 L
theorem sf_setloc {p : Bool} {es : List (List AV)} {s o l i : Nat} (h : (Blk.row p 1 es).safe = true) : (Blk.row p 1 (es.set i [.loc s o l])).safe = true := by
  simp only [Blk.safe, List.all_eq_true] at h ⊢
  intro e he x hx
  rcases List.mem_or_eq_of_mem_set he with h1 | h1
  · exact h e h1 x hx
  · subst h1
    rw [List.mem_singleton.1 hx]; rfl
theorem rows_only {l : List Nat} {L : List (List Nat)} {c s o n : Nat} (h : l.contains s = true) : (Blk.row false 1 ((L.map rN).set c [.loc s o n])).only l = true := by
  show ((L.map rN).set c [.loc s o n]).all (fun e => e.all (AV.only l)) = true
  rw [List.all_eq_true]
  intro e he
  rcases List.mem_or_eq_of_mem_set he with h1 | h1
  · obtain ⟨r, _, rfl⟩ := List.mem_map.1 h1
    rfl
  · subst h1
    show (l.contains s && true) = true
    rw [h]; rfl
theorem rows_only2 {l : List Nat} {L : List (List Nat)} {c s o n c' s' o' n' : Nat} (h : l.contains s = true) (h' : l.contains s' = true) : (Blk.row false 1 (((L.map rN).set c [.loc s o n]).set c' [.loc s' o' n'])).only l = true := by
  show (((L.map rN).set c [.loc s o n]).set c' [.loc s' o' n']).all (fun e => e.all (AV.only l)) = true
  rw [List.all_eq_true]
  intro e he
  rcases List.mem_or_eq_of_mem_set he with h0 | h1
  · rcases List.mem_or_eq_of_mem_set h0 with h1 | h1
    · obtain ⟨r, _, rfl⟩ := List.mem_map.1 h1
      rfl
    · subst h1
      show (l.contains s && true) = true
      rw [h]; rfl
  · subst h1
    show (l.contains s' && true) = true
    rw [h']; rfl
theorem flat2 (l l2 : List Nat) : flatRows [(1, l.map eNat), (1, l2.map eNat)] = true := by
  simp [flatRows, flatRow, eNat, List.all_map, Function.comp_def]
theorem rows_sf (p : Bool) (L : List (List Nat)) : (Blk.row p 1 (L.map rN)).safe = true := sf_row (rows_nb L)
theorem red_nb (L : List (List Nat)) (k : Nat) : (T.tup [(false, [.row true 1 (L.map rN)]), (false, [vN k])]).nb = true := by
  have h5 : AV.nb (4 + 1) (.row true 1 (L.map rN)) = true := nb_map (n := 4) (fun y => by show (AV.nb (3 + 1) _ && true) = true; rw [nb_map (n := 3) (fun _ => rfl)]; rfl) _
  simp only [T.nb, List.all_cons, List.all_nil, h5]; rfl
theorem reduced_c {k : Nat} {M : List (List Nat)} {xs : List AV} {gf : FuncId} (hk : 1 ≤ k ∧ k ≤ 8) (h : RowsOk k k M) (hn : NSR k k (cel M)) (hxs : xs.all AV.isFree = true)
    (hg : ∀ i, i < k → Fun1 Tryz.prog gf [.one (vN i), .one (.bptr xs 0)] (.one (.row true 1 ((unitR i k).map eNat)))) :
    Fun1 Tryz.prog 169 [.agg (matE k k M.flatten), .one (.fn gf [.bptr xs 0])] (.tup [(false, [.row true 1 ((gzR (augR k M) k).map rN)]), (false, [vN k])]) := by
  have hkk : k * k ≤ 8 * 8 := Nat.mul_le_mul hk.2 hk.2
  have hfl : M.flatten.length = k * k := by rw [flat_len' h.wid, h.len]
  refine fun1_of_vc (E := tbR) (tbF_ok _) mix (fn := Tryz.f169) Tryz.func169 rfl (by kernel_rfl) (by kernel_rfl) (by simp [Tryz.f169]) (by exact red_nb _ _) ?_
  (conv => whnf)
  refine ⟨LG (fun i : Nat => i ≤ k) (fun i => k - i) (fun i => AS.of [(1, .one (.fn gf [.bptr xs 0])), (2, .one (.ptr 32 0)), (6, .one (.loc 448 0 i)), (14, .one (vN k)), (15, .one (vN i))] [(32, .var [vN k, vN k, .row true 1 (M.flatten.map eNat)]), (448, .row true 1 ((augI k M i).map rN))]),
    lg_init 0 (by omega) (weak_nil 6 448 1 rfl rfl (weak_of allsA allsA rfl rfl)), ?_⟩
  rintro σ j ⟨i, hi, rfl, rfl⟩
  refine ⟨_, Weak.refl _, ?_⟩
  (conv => whnf)
  (split <;> rename_i hb <;> (try simp only [decide_eq_true_eq, decide_eq_false_iff_not, Bool.not_eq_true', Bool.not_eq_false', Bool.not_eq_true, Bool.not_eq_false, List.length_map] at hb) <;> conv => whnf)
  · have hlt : i < k := by omega
    have hrl : (i + 1) * k ≤ M.flatten.length := row_len hfl hlt
    refine ⟨_, _, sub_ok (rowSub_c (r := k) (c := k) (cs := M.flatten) (o := false) (i := i) hrl (by omega) (by omega)) rfl rfl lendA rfl (by rw [List.length_map]; rw [Nat.add_mul] at hrl; omega), ?_⟩; (conv => whnf)
    refine ⟨_, _, hg i hlt, lends_cons (lend_one (la_int rfl)) (lends_cons (lend_one (la_bptr rfl rfl)) lends_nil), ?_⟩; (conv => whnf)
    have hrow : ((M.flatten.map eNat).drop (i * k)).take k = (rw' M i).map eNat := by rw [← List.map_drop, ← List.map_take, flat_row h.wid i (by rw [h.len]; exact hlt)]
    have hrw := h.rl hlt
    have hul : (unitR i k).length = k := unitR_len i k
    have hcc := concatB_c [(false, rw' M i), (true, unitR i k)] [rw' M i, unitR i k] rfl (by simp) (by simp [hrw]; omega)
    have hs := range_succ_map (fun j => rw' M j ++ unitR j k) i
    refine ⟨_, _, call_weak (weak_absorb 400 384 [[.row false 1 (((M.flatten.map eNat).drop (i * k)).take k)]] [] [] [] (es2 := (unitR i k).map eNat) (by decide) rfl rfl rfl rfl rfl rfl
      (weak_of (tl := [(1, .one (.fn gf [.bptr xs 0])), (2, .one (.ptr 32 0)), (18, .one (.loc 448 0 i)), (25, .one (.loc 400 0 2)), (14, .one (vN k)), (15, .one (vN i))]) (ml := [(32, .var [vN k, vN k, .row true 1 (M.flatten.map eNat)]), (448, .row true 1 ((augI k M i).map rN)), (400, .row true 1 ([(false, rw' M i), (true, unitR i k)].map rB))])
        allsA (all_cons rfl (all_cons rfl (all_cons (eq_row rfl (by rw [hrow]; rfl)) all_nil))) rfl rfl))
      (fun_ok 416 hcc (lends_cons (lend_one (la_loc rfl rfl rfl rfl rfl)) lends_nil) (fun x hx => by rw [List.mem_singleton.1 hx]; rfl)), ?_⟩; (conv => whnf)
    refine ⟨_, _, ⟨rfl, Nat.le_refl _, rfl, rfl⟩, ?_⟩; (conv => whnf)
    refine ⟨_, rfl, rfl, by simp [augI], rfl, by simp [augI, maxLen, chunk]; omega, by simp [augI, chunk]; omega, ?_⟩; (conv => whnf)
    (refine ⟨((i + 1 : Nat) : Int), by rw [← wrap64_id] <;> omega, ?_⟩; conv => whnf)
    exact lg_back (i + 1) (by omega) (by (try dsimp only); omega) (weak_absorb 448 416 ((augI k M i).map rN) [] [] [] (es2 := [rw' M i, unitR i k].flatten.map fun n => [vN n]) (by decide) rfl rfl (cellRow_map (fun _ => rfl) _) rfl rfl rfl
      (weak_of (all_cons rfl (all_cons rfl (all_cons (eq_loc rfl (by simp [chunk, augI])) (all_cons rfl (all_cons rfl all_nil))))) (all_cons rfl (all_cons (eq_row rfl (by rw [show augI k M (i + 1) = augI k M i ++ [rw' M i ++ unitR i k] from hs, List.map_append]; simp)) all_nil)) rfl rfl))
  · have : i = k := by omega
    subst this
    have hA : augI i M i = augR i M := rfl
    refine ⟨LG (fun c : Nat => c ≤ i) (fun c => i - c) (fun c => AS.of [(2, .one (.ptr 32 0)), (6, .one (.loc 448 0 i)), (8, .one (vN c)), (31, .one (vN i)), (32, .one (vN c))] [(32, .var [vN i, vN i, .dead]), (448, .row true 1 ((gzR (augR i M) c).map rN))]),
      lg_init 0 (by omega) (weak_dim 32 _ [vN i, vN i, .dead] rfl ⟨.inl rfl, .inl rfl, .inr rfl, trivial⟩ (weak_of allsA allsA rfl rfl)), ?_⟩
    rintro σ j ⟨c, hc, rfl, rfl⟩
    have g := gzI h hn c hc
    obtain ⟨G, hG⟩ : ∃ G, gzR (augR i M) c = G := ⟨_, rfl⟩
    rw [hG] at g
    dsimp only
    rw [hG]
    by_cases hlt : c < i
    · have hG1 : gzR (augR i M) (c + 1) = elimR (sclL (swR G c (pivR G c)) c) c i := by rw [gzR, stepR, hG, ← g.ok.len]
      obtain ⟨hp1, hp2, hp3⟩ := g.piv hlt
      have hGl := g.ok.len
      have hfi : (G.drop c).findIdx? (fun r => decide (r.getD c 0 ≠ 0)) = some (pivR G c - c) := by
        rw [List.findIdx?_eq_some_iff_findIdx_eq]
        unfold pivR
        refine ⟨?_, by omega⟩
        unfold pivR at hp2
        rw [List.length_drop]; omega
      have hix := indexRows_c (G.drop c) 189 [vN c] rfl (fun r => decide (r.getD c 0 ≠ 0)) (by rw [List.length_drop]; omega) (fun d hd => reducedFn_c (by have := g.ok.wid d (List.mem_of_mem_drop hd); omega) (by have := g.ok.wid d (List.mem_of_mem_drop hd); omega))
      rw [hfi] at hix
      have hdr : ((G.map rN).drop c).take (i - c) = (G.drop c).map rN := by rw [← List.map_drop, List.take_of_length_le (by simp [hGl])]
      obtain ⟨p, hp⟩ : ∃ p, pivR G c = p := ⟨_, rfl⟩
      rw [hp] at hp1 hp2 hp3 hix hfi hG1
      have hrc := g.ok.rl hlt
      have hrp := g.ok.rl hp2
      have hGc : (G.map rN)[c]? = some [.row true 1 ((rw' G c).map eNat)] := by rw [List.getElem?_map, List.getElem?_eq_getElem (by omega), ← getD_lt (d := [])]; rfl
      have hGp : (G.map rN)[p]? = some [.row true 1 ((rw' G p).map eNat)] := by rw [List.getElem?_map, List.getElem?_eq_getElem (by omega), ← getD_lt (d := [])]; rfl
      have hSc : rw' (swR G c p) c = rw' G p := by
        rw [swR, rw_set (by rw [List.length_set]; omega), rw_set (by omega)]
        split
        · rename_i e; rw [e]
        · rw [if_pos rfl]
      have gS := g.ok.sw hlt hp2
      have hScc : cel (swR G c p) c c = cel G p c := by rw [cel, hSc]; rfl
      obtain ⟨D, hD⟩ : ∃ D, sclL (swR G c p) c = D := ⟨_, rfl⟩
      have gD : RowsOk i (2 * i) D := hD ▸ gS.scl hlt
      have hDc : rw' D c = sclR (invN (cel G p c)) (rw' G p) := by rw [← hD, sclL, rw_set (by rw [gS.len]; exact hlt), if_pos rfl, hScc, hSc]
      have hDs : ((swR G c p).map rN).set c [.loc 1000 0 (rw' G p).length] = (D.map rN).set c [.loc 1000 0 (rw' G p).length] := by rw [← hD, sclL, List.map_set, List.set_set]
      rw [hD] at hG1
      refine ⟨_, Weak.refl _, ?_⟩
      (conv => whnf)
      (split <;> rename_i hb2 <;> (try simp only [decide_eq_true_eq, decide_eq_false_iff_not, Bool.not_eq_true', Bool.not_eq_false', Bool.not_eq_true, Bool.not_eq_false, List.length_map] at hb2) <;> conv => whnf)
      · refine ⟨by simp only [Option.getD]; omega, by simp only [Option.getD]; omega, by simp only [Option.getD]; omega, c, i - c, by simp only [Option.getD]; omega, by simp only [Option.getD]; omega, ?_⟩; (conv => whnf)
        refine ⟨_, _, hix, lends_cons (lend_one (la_loc' rfl rfl (by simp [hGl]; omega) hdr.symm)) (lends_cons (lend_one (la_fn rfl (all2_cons (la_ptr rfl rfl rfl (all2_cons (la_lit rfl) all2_nil)) all2_nil))) lends_nil), ?_⟩; (conv => whnf)
        have hGc' : p = c → (G.map rN)[c]? = some [.row true 1 ((rw' G p).map eNat)] := fun e => by rw [e]; exact hGc
        by_cases hpc : p = c
        · have hGc' := hGc' hpc
          refine ⟨_, Weak.trans (weak_of (tl := [(2, .one (.ptr 32 0)), (6, .one (.loc 448 0 i)), (8, .one (vN c)), (9, .one (.ptr 144 0)), (10, .one (vN (p - c))), (31, .one (vN i)), (32, .one (vN c))]) (ml := [(32, .var [vN i, vN i, .dead]), (144, .var [vN c]), (448, .row true 1 (G.map rN))]) allsA (all_cons rfl (all_cons rfl (all_cons rfl all_nil))) rfl rfl)
            (weak_focus_at 448 1000 c rfl (Bool.and_eq_true_iff.2 ⟨rfl, Bool.and_eq_true_iff.2 ⟨rfl, Bool.and_eq_true_iff.2 ⟨rows_sf _ _, rfl⟩⟩⟩) (nbRow_map (fun y => rfl) _) rfl hGc' rfl (Weak.refl _)), ?_⟩
          (conv => whnf)
          have hgc : ((G.map rN).set c [.loc 1000 0 ((rw' G p).map eNat).length])[0 + c]? = some [.loc 1000 0 ((rw' G p).map eNat).length] := by rw [Nat.zero_add, List.getElem?_set_self (by simp [hGl]; omega)]
          have hgc2 : (((G.map rN).set c [.loc 1000 0 ((rw' G p).map eNat).length]).set (0 + c) [.loc 1000 0 ((rw' G p).map eNat).length])[0 + c]? = some [.loc 1000 0 ((rw' G p).map eNat).length] := by rw [Nat.zero_add, List.getElem?_set_self (by simp [hGl]; omega)]
          have hgx : ((((G.map rN).set c [.loc 1000 0 ((rw' G p).map eNat).length]).set (0 + c) [.loc 1000 0 ((rw' G p).map eNat).length]).set (0 + c) [.loc 1000 0 ((rw' G p).map eNat).length])[0 + c]? = some [.loc 1000 0 ((rw' G p).map eNat).length] := by
            rw [Nat.zero_add, List.getElem?_set_self (by simp [hGl]; omega)]
          refine ⟨((c : Nat) : Int), by rw [← wrap64_id] <;> omega, ?_⟩; (conv => whnf)
          refine ⟨((c : Nat) : Int), by rw [← wrap64_id] <;> omega, ?_⟩; (conv => whnf)
          refine ⟨c, rfl, by omega, ?_⟩; (conv => whnf)
          refine ⟨c, rfl, by omega, ?_⟩; (conv => whnf)
          refine ⟨_, hgc, ?_⟩; (conv => whnf)
          refine ⟨_, hgc, ?_⟩; (conv => whnf)
          refine ⟨c, rfl, by omega, ?_⟩; (conv => whnf)
          refine ⟨_, hgc, ?_⟩; (conv => whnf)
          refine ⟨_, rfl, ?_⟩; (conv => whnf)
          refine ⟨c, rfl, by omega, ?_⟩; (conv => whnf)
          refine ⟨_, hgc2, ?_⟩; (conv => whnf)
          refine ⟨_, rfl, ?_⟩; (conv => whnf)
          refine ⟨c, rfl, by omega, ?_⟩; (conv => whnf)
          refine ⟨_, hgx, ?_⟩; (conv => whnf)
          refine ⟨c, rfl, by omega, ?_⟩; (conv => whnf)
          refine ⟨_, hgx, ?_⟩; (conv => whnf)
          have hcp : ((rw' G p).map eNat)[0 + c]? = some (eNat (cel G p c)) := by rw [Nat.zero_add, List.getElem?_map, List.getElem?_eq_getElem (by omega), ← getD_lt (d := 0)]; rfl
          refine ⟨c, rfl, by rw [List.length_map]; omega, ?_⟩; (conv => whnf)
          refine ⟨_, hcp, ?_⟩; (conv => whnf)
          refine ⟨_, _, invImpl_c (g.ok.cb p c), lendA, ?_⟩; (conv => whnf)
          have hsw : (swR G c p).map rN = ((G.map rN).set c (rN (rw' G p))).set p (rN (rw' G c)) := by rw [swR, List.map_set, List.map_set]
          refine ⟨[(2, .one (.ptr 32 0)), (6, .one (.loc 448 0 i)), (8, .one (vN c)), (9, .one (.ptr 144 0)), (31, .one (vN i)), (32, .one (vN c)), (63, .one (.loc 1000 0 (rw' G p).length)), (71, .one (vN (invN (cel G p c))))], [(32, .var [vN i, vN i, .dead]), (144, .var [vN c]), (448, .row false 1 (((swR G c p).map rN).set c [.loc 1000 0 (rw' G p).length])), (1000, .row true 1 ((rw' G p).map eNat))],
            weak_of ?_ ?_ rfl (onm_cons rfl (onm_cons rfl (onm_cons (rows_only rfl) (onm_cons rfl onm_nil)))), _, _, _, _, [1000], scale_c (by omega) (g.ok.rb hp2) (invN_lt (g.ok.cb p c)), rens_cons (ren_one (ren_loc rfl rfl)) (rens_cons (ren_one (ren_lit rfl)) rens_nil), hasRows_cons rfl hasRows_nil, (by decide), rfl, Bool.or_eq_true_iff.2 (.inr (flat1 _)), rfl, ?_⟩
          · exact all_cons rfl (all_cons rfl (all_cons rfl (all_cons rfl (all_cons rfl (all_cons rfl (all_cons (eq_loc rfl (by simp)) (all_cons rfl all_nil)))))))
          · refine all_cons rfl (all_cons rfl (all_cons (eq_row rfl ?_) (all_cons rfl all_nil)))
            show (((G.map rN).set c [.loc 1000 0 ((rw' G p).map eNat).length]).set (0 + c) [.loc 1000 0 ((rw' G p).map eNat).length]).set (0 + c) [.loc 1000 0 ((rw' G p).map eNat).length] = _
            rw [Nat.zero_add, List.set_set, List.set_set, hsw, hpc, List.set_set, List.set_set, List.length_map]
          (conv => whnf)
          refine ⟨LG (fun q : Nat => q ≤ i) (fun q => i - q) (fun q => AS.of [(2, .one (.ptr 32 0)), (6, .one (.loc 448 0 i)), (8, .one (vN c)), (9, .one (.ptr 144 0)), (31, .one (vN i)), (32, .one (vN c)), (73, .one (.loc 448 0 i)), (74, .one (vN i)), (75, .one (vN q))] [(32, .var [vN i, vN i, .dead]), (144, .var [vN c]), (448, .row false 1 (((elimR D c q).map rN).set c [.loc 1000 0 (rw' G p).length])), (1000, .row true 1 ((rw' D c).map eNat))]),
            lg_init 0 (by omega) (weak_of allsA (all_cons rfl (all_cons rfl (all_cons (eq_row rfl hDs) (all_cons (eq_row rfl (by rw [hDc])) all_nil)))) rfl (onm_cons rfl (onm_cons rfl (onm_cons (rows_only rfl) (onm_cons rfl onm_nil))))), ?_⟩
          rintro σ j ⟨q, hq, rfl, rfl⟩
          obtain ⟨E, hE'⟩ : ∃ E, elimR D c q = E := ⟨_, rfl⟩
          have gE : RowsOk i (2 * i) E := hE' ▸ gD.elim hlt q hq
          have hEl := gE.len
          have hEc : rw' E c = rw' D c := hE' ▸ rw_elim q (by rw [gD.len]; exact hq) c (.inr rfl)
          dsimp only
          rw [hE']
          by_cases hqi : q < i
          · by_cases hqc : q = c
            · have hgq : ((E.map rN).set c [.loc 1000 0 (rw' G p).length])[0 + q]? = some [.loc 1000 0 (rw' G p).length] := by rw [hqc, Nat.zero_add]; exact List.getElem?_set_self (by simp [hEl]; omega)
              have hE3 : elimR D c (q + 1) = E := by rw [elimR, if_pos hqc, hE']
              refine ⟨_, Weak.refl _, ?_⟩
              (conv => whnf)
              (split <;> rename_i h <;> (try simp only [decide_eq_true_eq, decide_eq_false_iff_not, Bool.not_eq_true', Bool.not_eq_false', Bool.not_eq_true, Bool.not_eq_false, List.length_map] at h) <;> conv => whnf)
              · refine ⟨q, rfl, by omega, ?_⟩; (conv => whnf)
                refine ⟨_, hgq, ?_⟩; (conv => whnf)
                (split <;> rename_i h' <;> (try simp only [decide_eq_true_eq, decide_eq_false_iff_not, Bool.not_eq_true', Bool.not_eq_false', Bool.not_eq_true, Bool.not_eq_false, List.length_map] at h') <;> conv => whnf)
                · omega
                · (refine ⟨((q + 1 : Nat) : Int), by rw [← wrap64_id] <;> omega, ?_⟩; conv => whnf)
                  exact lg_back (q + 1) (by omega) (by (try dsimp only); omega) (weak_of allsA (all_cons rfl (all_cons rfl (all_cons (eq_row rfl (by rw [hE3])) (all_cons rfl all_nil)))) rfl (onm_cons rfl (onm_cons rfl (onm_cons (rows_only rfl) (onm_cons rfl onm_nil)))))
              · omega
            · have hEq : (((E.map rN).set c [.loc 1000 0 (rw' G p).length]))[q]? = some [.row true 1 ((rw' E q).map eNat)] := by
                rw [List.getElem?_set_ne (Ne.symm hqc), List.getElem?_map, List.getElem?_eq_getElem (by omega), ← getD_lt (d := [])]; rfl
              have hEq2 : ((((E.map rN).set c [.loc 1000 0 (rw' G p).length])).set q [.loc 1001 0 ((rw' E q).map eNat).length])[0 + q]? = some [.loc 1001 0 ((rw' E q).map eNat).length] := by
                rw [Nat.zero_add]; exact List.getElem?_set_self (by simp [hEl]; omega)
              have hEc2 : ((((E.map rN).set c [.loc 1000 0 (rw' G p).length])).set q [.loc 1001 0 ((rw' E q).map eNat).length])[0 + c]? = some [.loc 1000 0 (rw' G p).length] := by
                rw [Nat.zero_add, List.getElem?_set_ne hqc]; exact List.getElem?_set_self (by simp [hEl]; omega)
              have hrq := gE.rl hqi
              have hcq : ((rw' E q).map eNat)[0 + c]? = some (eNat (cel E q c)) := by rw [Nat.zero_add, List.getElem?_map, List.getElem?_eq_getElem (by omega), ← getD_lt (d := 0)]; rfl
              have hE3 : elimR D c (q + 1) = E.set q (addR (rw' E q) (rw' D c) (cel E q c)) := by rw [elimR, if_neg hqc, hE', hEc]
              refine ⟨_, weak_focus_at 448 1001 q rfl (Bool.and_eq_true_iff.2 ⟨rfl, Bool.and_eq_true_iff.2 ⟨rfl, Bool.and_eq_true_iff.2 ⟨sf_setloc (rows_sf _ _), Bool.and_eq_true_iff.2 ⟨sf_row (nbRow_map (fun y => rfl) _), rfl⟩⟩⟩⟩) (nbRow_map (fun y => rfl) _) rfl hEq rfl (Weak.refl _), ?_⟩
              (conv => whnf)
              (split <;> rename_i h <;> (try simp only [decide_eq_true_eq, decide_eq_false_iff_not, Bool.not_eq_true', Bool.not_eq_false', Bool.not_eq_true, Bool.not_eq_false, List.length_map] at h) <;> conv => whnf)
              · refine ⟨q, rfl, by omega, ?_⟩; (conv => whnf)
                refine ⟨_, hEq2, ?_⟩; (conv => whnf)
                (split <;> rename_i h' <;> (try simp only [decide_eq_true_eq, decide_eq_false_iff_not, Bool.not_eq_true', Bool.not_eq_false', Bool.not_eq_true, Bool.not_eq_false, List.length_map] at h') <;> conv => whnf)
                · refine ⟨c, rfl, by omega, ?_⟩; (conv => whnf)
                  refine ⟨_, hEc2, ?_⟩; (conv => whnf)
                  refine ⟨c, rfl, by rw [List.length_map]; omega, ?_⟩; (conv => whnf)
                  refine ⟨_, hcq, ?_⟩; (conv => whnf)
                  refine ⟨[(2, .one (.ptr 32 0)), (6, .one (.loc 448 0 i)), (8, .one (vN c)), (9, .one (.ptr 144 0)), (31, .one (vN i)), (32, .one (vN c)), (73, .one (.loc 448 0 i)), (74, .one (vN i)), (75, .one (vN q)), (83, .one (.loc 1001 0 (rw' E q).length)), (87, .one (.loc 1000 0 (rw' D c).length)), (91, .one (vN (cel E q c)))], [(32, .var [vN i, vN i, .dead]), (144, .var [vN c]), (448, .row false 1 (((E.map rN).set c [.loc 1000 0 (rw' G p).length]).set q [.loc 1001 0 ((rw' E q).map eNat).length])), (1001, .row true 1 ((rw' E q).map eNat)), (1000, .row true 1 ((rw' D c).map eNat))],
                    weak_of (all_cons rfl (all_cons rfl (all_cons rfl (all_cons rfl (all_cons rfl (all_cons rfl (all_cons rfl (all_cons rfl (all_cons rfl (all_cons (eq_loc rfl (by simp)) (all_cons (eq_loc rfl (by rw [hDc, sclR_len])) (all_cons rfl all_nil)))))))))))) (all_cons rfl (all_cons rfl (all_cons rfl (all_cons rfl (all_cons rfl all_nil))))) rfl (onm_cons rfl (onm_cons rfl (onm_cons (rows_only2 rfl rfl) (onm_cons rfl (onm_cons rfl onm_nil))))), _, _, _, _, [1001, 1000],
                    addTimes_c (by omega) (by rw [gD.rl hlt, hrq]) (gE.rb hqi) (gD.rb hlt) (gE.cb q c), rens_cons (ren_one (ren_loc rfl rfl)) (rens_cons (ren_one (ren_loc rfl rfl)) (rens_cons (ren_one (ren_lit rfl)) rens_nil)), hasRows_cons rfl (hasRows_cons rfl hasRows_nil), (by decide), rfl, Bool.or_eq_true_iff.2 (.inr (flat2 _ _)), rfl, ?_⟩
                  (conv => whnf)
                  (refine ⟨((q + 1 : Nat) : Int), by rw [← wrap64_id] <;> omega, ?_⟩; conv => whnf)
                  refine lg_back (q + 1) (by omega) (by (try dsimp only); omega) (weak_absorb_at 448 1001 q (es := ((E.map rN).set c [.loc 1000 0 (rw' G p).length]).set q [.loc 1001 0 ((rw' E q).map eNat).length]) (es2 := (addR (rw' E q) (rw' D c) (cel E q c)).map eNat) false (by decide) rfl ?_ rfl ?_ (weak_of allsA (all_cons rfl (all_cons rfl (all_cons (eq_row rfl ?_) (all_cons rfl all_nil)))) rfl (onm_cons rfl (onm_cons rfl (onm_cons (rows_only rfl) (onm_cons rfl onm_nil))))))
                  · rw [List.getElem?_set_self (by simp [hEl]; omega), List.length_map, List.length_map, addR_len (by rw [gD.rl hlt, hrq])]
                  · intro j e hj he
                    rw [List.getElem?_set_ne (Ne.symm hj)] at he
                    by_cases e1 : c = j
                    · subst e1
                      rw [List.getElem?_set_self (by simp [hEl]; omega)] at he
                      cases he
                      exact ⟨_, rfl, rfl, fun h => by cases h⟩
                    · rw [List.getElem?_set_ne e1] at he
                      obtain ⟨r, _, rfl⟩ := List.mem_map.1 (List.mem_of_getElem? he)
                      exact ⟨_, rfl, rfl, fun h => by cases h⟩
                  · rw [hE3, List.map_set, List.set_set, List.set_comm _ _ (Ne.symm hqc)]; rfl
                · omega
              · omega
          · have hqi2 : q = i := by omega
            have hGn : gzR (augR i M) (c + 1) = E := by rw [hG1, ← hqi2, hE']
            have hi1 : ((E.map rN).set c [.loc 1000 0 (rw' G p).length])[c]? = some [.loc 1000 0 ((rw' D c).map eNat).length] := by
              rw [List.getElem?_set_self (by simp [hEl]; omega), List.length_map, hDc, sclR_len]
            have hno : ∀ j e, j ≠ c → ((E.map rN).set c [.loc 1000 0 (rw' G p).length])[j]? = some e → ∃ x, e = [x] ∧ x.noref 1000 = true ∧ (true = true → x.isCell = true) := by
              intro j e hj he
              rw [List.getElem?_set_ne (Ne.symm hj)] at he
              obtain ⟨r, _, rfl⟩ := List.mem_map.1 (List.mem_of_getElem? he)
              exact ⟨_, rfl, rfl, fun _ => rfl⟩
            have hab : ((E.map rN).set c [.loc 1000 0 (rw' G p).length]).set c [.row true 1 ((rw' D c).map eNat)] = E.map rN := by
              rw [List.set_set, ← hEc]
              show (E.map rN).set c (rN (rw' E c)) = _
              rw [← List.map_set, set_rw (by omega)]
            refine ⟨_, Weak.refl _, ?_⟩
            (conv => whnf)
            (split <;> rename_i h <;> (try simp only [decide_eq_true_eq, decide_eq_false_iff_not, Bool.not_eq_true', Bool.not_eq_false', Bool.not_eq_true, Bool.not_eq_false, List.length_map] at h) <;> conv => whnf)
            · omega
            · (refine ⟨((c + 1 : Nat) : Int), by rw [← wrap64_id] <;> omega, ?_⟩; conv => whnf)
              (split <;> rename_i h2 <;> (try simp only [decide_eq_true_eq, decide_eq_false_iff_not, Bool.not_eq_true', Bool.not_eq_false', Bool.not_eq_true, Bool.not_eq_false, List.length_map] at h2) <;> conv => whnf)
              · refine ⟨_, weak_absorb_at 448 1000 c (es := (E.map rN).set c [.loc 1000 0 (rw' G p).length]) (es2 := (rw' D c).map eNat) true (by decide) rfl hi1 rfl hno (Weak.refl _), ?_⟩
                (conv => whnf)
                have hci : c + 1 = i := by omega
                refine ⟨rfl, ⟨close_row rfl rfl ?_ ?_, trivial⟩, rfl, ⟨close_int (by omega), trivial⟩, trivial⟩
                · rw [hab]; simp [hEl]
                · rw [hab, ← hGn, hci]
              · (refine ⟨((c + 1 : Nat) : Int), by rw [← wrap64_id] <;> omega, ?_⟩; conv => whnf)
                refine lg_back (c + 1) (by omega) (by (try dsimp only); omega) (weak_absorb_at 448 1000 c (es := (E.map rN).set c [.loc 1000 0 (rw' G p).length]) (es2 := (rw' D c).map eNat) true (by decide) rfl hi1 rfl hno (weak_of allsA (all_cons rfl (all_cons (eq_row rfl ?_) all_nil)) rfl rfl))
                rw [hab, hGn]
        · refine ⟨_, Weak.trans (weak_of (tl := [(2, .one (.ptr 32 0)), (6, .one (.loc 448 0 i)), (8, .one (vN c)), (9, .one (.ptr 144 0)), (10, .one (vN (p - c))), (31, .one (vN i)), (32, .one (vN c))]) (ml := [(32, .var [vN i, vN i, .dead]), (144, .var [vN c]), (448, .row true 1 (G.map rN))]) allsA (all_cons rfl (all_cons rfl (all_cons rfl all_nil))) rfl rfl)
            (weak_focus_at 448 1001 c rfl (Bool.and_eq_true_iff.2 ⟨rfl, Bool.and_eq_true_iff.2 ⟨rfl, Bool.and_eq_true_iff.2 ⟨rows_sf _ _, rfl⟩⟩⟩) (nbRow_map (fun y => rfl) _) rfl hGc rfl
            (weak_focus_at 448 1000 p rfl (Bool.and_eq_true_iff.2 ⟨sf_setloc (rows_sf _ _), Bool.and_eq_true_iff.2 ⟨sf_row (nbRow_map (fun y => rfl) _), Bool.and_eq_true_iff.2 ⟨rfl, Bool.and_eq_true_iff.2 ⟨rfl, Bool.and_eq_true_iff.2 ⟨rows_sf _ _, rfl⟩⟩⟩⟩⟩) (nbRow_map (fun y => rfl) _) rfl ((List.getElem?_set_ne (Ne.symm hpc)).trans hGp) rfl (Weak.refl _))), ?_⟩
          (conv => whnf)
          have hlE : (((G.map rN).set c [.loc 1001 0 ((rw' G c).map eNat).length]).set p [.loc 1000 0 ((rw' G p).map eNat).length]).length = i := by simp [hGl]
          have hgp : (((G.map rN).set c [.loc 1001 0 ((rw' G c).map eNat).length]).set p [.loc 1000 0 ((rw' G p).map eNat).length])[0 + p]? = some [.loc 1000 0 ((rw' G p).map eNat).length] := by rw [Nat.zero_add, List.getElem?_set_self (by simp [hGl]; omega)]
          have hgc : (((G.map rN).set c [.loc 1001 0 ((rw' G c).map eNat).length]).set p [.loc 1000 0 ((rw' G p).map eNat).length])[0 + c]? = some [.loc 1001 0 ((rw' G c).map eNat).length] := by rw [Nat.zero_add, List.getElem?_set_ne hpc, List.getElem?_set_self (by simp [hGl]; omega)]
          refine ⟨((p : Nat) : Int), by rw [← wrap64_id] <;> omega, ?_⟩; (conv => whnf)
          refine ⟨((p : Nat) : Int), by rw [← wrap64_id] <;> omega, ?_⟩; (conv => whnf)
          refine ⟨p, rfl, by omega, ?_⟩; (conv => whnf)
          refine ⟨c, rfl, by omega, ?_⟩; (conv => whnf)
          refine ⟨_, hgp, ?_⟩; (conv => whnf)
          refine ⟨_, hgc, ?_⟩; (conv => whnf)
          refine ⟨c, rfl, by omega, ?_⟩; (conv => whnf)
          refine ⟨_, hgc, ?_⟩; (conv => whnf)
          refine ⟨_, rfl, ?_⟩; (conv => whnf)
          have hgp2 : ((((G.map rN).set c [.loc 1001 0 ((rw' G c).map eNat).length]).set p [.loc 1000 0 ((rw' G p).map eNat).length]).set (0 + c) [.loc 1000 0 ((rw' G p).map eNat).length])[0 + p]? = some [.loc 1000 0 ((rw' G p).map eNat).length] := by rw [Nat.zero_add, Nat.zero_add, List.getElem?_set_ne (Ne.symm hpc), List.getElem?_set_self (by simp [hGl]; omega)]
          refine ⟨p, rfl, by omega, ?_⟩; (conv => whnf)
          refine ⟨_, hgp2, ?_⟩; (conv => whnf)
          refine ⟨_, rfl, ?_⟩; (conv => whnf)
          have hgx : (((((G.map rN).set c [.loc 1001 0 ((rw' G c).map eNat).length]).set p [.loc 1000 0 ((rw' G p).map eNat).length]).set (0 + c) [.loc 1000 0 ((rw' G p).map eNat).length]).set (0 + p) [.loc 1001 0 ((rw' G c).map eNat).length])[0 + c]? = some [.loc 1000 0 ((rw' G p).map eNat).length] := by
            rw [Nat.zero_add, Nat.zero_add, List.getElem?_set_ne hpc, List.getElem?_set_self (by simp [hGl]; omega)]
          refine ⟨c, rfl, by omega, ?_⟩; (conv => whnf)
          refine ⟨_, hgx, ?_⟩; (conv => whnf)
          refine ⟨c, rfl, by omega, ?_⟩; (conv => whnf)
          refine ⟨_, hgx, ?_⟩; (conv => whnf)
          have hcp : ((rw' G p).map eNat)[0 + c]? = some (eNat (cel G p c)) := by rw [Nat.zero_add, List.getElem?_map, List.getElem?_eq_getElem (by omega), ← getD_lt (d := 0)]; rfl
          refine ⟨c, rfl, by rw [List.length_map]; omega, ?_⟩; (conv => whnf)
          refine ⟨_, hcp, ?_⟩; (conv => whnf)
          refine ⟨_, _, invImpl_c (g.ok.cb p c), lendA, ?_⟩; (conv => whnf)
          have hsw : (swR G c p).map rN = ((G.map rN).set c (rN (rw' G p))).set p (rN (rw' G c)) := by rw [swR, List.map_set, List.map_set]
          refine ⟨[(2, .one (.ptr 32 0)), (6, .one (.loc 448 0 i)), (8, .one (vN c)), (9, .one (.ptr 144 0)), (31, .one (vN i)), (32, .one (vN c)), (63, .one (.loc 1000 0 (rw' G p).length)), (71, .one (vN (invN (cel G p c))))], [(32, .var [vN i, vN i, .dead]), (144, .var [vN c]), (448, .row false 1 (((swR G c p).map rN).set c [.loc 1000 0 (rw' G p).length])), (1000, .row true 1 ((rw' G p).map eNat))],
            weak_absorb_at 448 1001 p (es := ((((G.map rN).set c [.loc 1001 0 ((rw' G c).map eNat).length]).set p [.loc 1000 0 ((rw' G p).map eNat).length]).set (0 + c) [.loc 1000 0 ((rw' G p).map eNat).length]).set (0 + p) [.loc 1001 0 ((rw' G c).map eNat).length]) (es2 := (rw' G c).map eNat) false (by decide) rfl ?_ rfl ?_ (weak_of ?_ ?_ rfl (onm_cons rfl (onm_cons rfl (onm_cons (rows_only rfl) (onm_cons rfl onm_nil))))), _, _, _, _, [1000], scale_c (by omega) (g.ok.rb hp2) (invN_lt (g.ok.cb p c)), rens_cons (ren_one (ren_loc rfl rfl)) (rens_cons (ren_one (ren_lit rfl)) rens_nil), hasRows_cons rfl hasRows_nil, (by decide), rfl, Bool.or_eq_true_iff.2 (.inr (flat1 _)), rfl, ?_⟩
          · rw [Nat.zero_add, Nat.zero_add]; exact List.getElem?_set_self (by simp [hGl]; omega)
          · intro j e hj he
            rw [Nat.zero_add, Nat.zero_add, List.getElem?_set_ne (Ne.symm hj)] at he
            by_cases e1 : c = j
            · subst e1
              rw [List.getElem?_set_self (by simp [hGl]; omega)] at he
              cases he
              exact ⟨_, rfl, rfl, fun h => by cases h⟩
            · rw [List.getElem?_set_ne e1, List.getElem?_set_ne (Ne.symm hj), List.getElem?_set_ne e1] at he
              obtain ⟨r, _, rfl⟩ := List.mem_map.1 (List.mem_of_getElem? he)
              exact ⟨_, rfl, rfl, fun h => by cases h⟩
          · exact all_cons rfl (all_cons rfl (all_cons rfl (all_cons rfl (all_cons rfl (all_cons rfl (all_cons (eq_loc rfl (by simp)) (all_cons rfl all_nil)))))))
          · refine all_cons rfl (all_cons rfl (all_cons (eq_row rfl ?_) (all_cons rfl all_nil)))
            rw [Nat.zero_add, Nat.zero_add, swap_list _ hpc, hsw, List.set_comm _ _ hpc, List.set_set, List.length_map]; rfl
          (conv => whnf)
          refine ⟨LG (fun q : Nat => q ≤ i) (fun q => i - q) (fun q => AS.of [(2, .one (.ptr 32 0)), (6, .one (.loc 448 0 i)), (8, .one (vN c)), (9, .one (.ptr 144 0)), (31, .one (vN i)), (32, .one (vN c)), (73, .one (.loc 448 0 i)), (74, .one (vN i)), (75, .one (vN q))] [(32, .var [vN i, vN i, .dead]), (144, .var [vN c]), (448, .row false 1 (((elimR D c q).map rN).set c [.loc 1000 0 (rw' G p).length])), (1000, .row true 1 ((rw' D c).map eNat))]),
            lg_init 0 (by omega) (weak_of allsA (all_cons rfl (all_cons rfl (all_cons (eq_row rfl hDs) (all_cons (eq_row rfl (by rw [hDc])) all_nil)))) rfl (onm_cons rfl (onm_cons rfl (onm_cons (rows_only rfl) (onm_cons rfl onm_nil))))), ?_⟩
          rintro σ j ⟨q, hq, rfl, rfl⟩
          obtain ⟨E, hE'⟩ : ∃ E, elimR D c q = E := ⟨_, rfl⟩
          have gE : RowsOk i (2 * i) E := hE' ▸ gD.elim hlt q hq
          have hEl := gE.len
          have hEc : rw' E c = rw' D c := hE' ▸ rw_elim q (by rw [gD.len]; exact hq) c (.inr rfl)
          dsimp only
          rw [hE']
          by_cases hqi : q < i
          · by_cases hqc : q = c
            · have hgq : ((E.map rN).set c [.loc 1000 0 (rw' G p).length])[0 + q]? = some [.loc 1000 0 (rw' G p).length] := by rw [hqc, Nat.zero_add]; exact List.getElem?_set_self (by simp [hEl]; omega)
              have hE3 : elimR D c (q + 1) = E := by rw [elimR, if_pos hqc, hE']
              refine ⟨_, Weak.refl _, ?_⟩
              (conv => whnf)
              (split <;> rename_i h <;> (try simp only [decide_eq_true_eq, decide_eq_false_iff_not, Bool.not_eq_true', Bool.not_eq_false', Bool.not_eq_true, Bool.not_eq_false, List.length_map] at h) <;> conv => whnf)
              · refine ⟨q, rfl, by omega, ?_⟩; (conv => whnf)
                refine ⟨_, hgq, ?_⟩; (conv => whnf)
                (split <;> rename_i h' <;> (try simp only [decide_eq_true_eq, decide_eq_false_iff_not, Bool.not_eq_true', Bool.not_eq_false', Bool.not_eq_true, Bool.not_eq_false, List.length_map] at h') <;> conv => whnf)
                · omega
                · (refine ⟨((q + 1 : Nat) : Int), by rw [← wrap64_id] <;> omega, ?_⟩; conv => whnf)
                  exact lg_back (q + 1) (by omega) (by (try dsimp only); omega) (weak_of allsA (all_cons rfl (all_cons rfl (all_cons (eq_row rfl (by rw [hE3])) (all_cons rfl all_nil)))) rfl (onm_cons rfl (onm_cons rfl (onm_cons (rows_only rfl) (onm_cons rfl onm_nil)))))
              · omega
            · have hEq : (((E.map rN).set c [.loc 1000 0 (rw' G p).length]))[q]? = some [.row true 1 ((rw' E q).map eNat)] := by
                rw [List.getElem?_set_ne (Ne.symm hqc), List.getElem?_map, List.getElem?_eq_getElem (by omega), ← getD_lt (d := [])]; rfl
              have hEq2 : ((((E.map rN).set c [.loc 1000 0 (rw' G p).length])).set q [.loc 1001 0 ((rw' E q).map eNat).length])[0 + q]? = some [.loc 1001 0 ((rw' E q).map eNat).length] := by
                rw [Nat.zero_add]; exact List.getElem?_set_self (by simp [hEl]; omega)
              have hEc2 : ((((E.map rN).set c [.loc 1000 0 (rw' G p).length])).set q [.loc 1001 0 ((rw' E q).map eNat).length])[0 + c]? = some [.loc 1000 0 (rw' G p).length] := by
                rw [Nat.zero_add, List.getElem?_set_ne hqc]; exact List.getElem?_set_self (by simp [hEl]; omega)
              have hrq := gE.rl hqi
              have hcq : ((rw' E q).map eNat)[0 + c]? = some (eNat (cel E q c)) := by rw [Nat.zero_add, List.getElem?_map, List.getElem?_eq_getElem (by omega), ← getD_lt (d := 0)]; rfl
              have hE3 : elimR D c (q + 1) = E.set q (addR (rw' E q) (rw' D c) (cel E q c)) := by rw [elimR, if_neg hqc, hE', hEc]
              refine ⟨_, weak_focus_at 448 1001 q rfl (Bool.and_eq_true_iff.2 ⟨rfl, Bool.and_eq_true_iff.2 ⟨rfl, Bool.and_eq_true_iff.2 ⟨sf_setloc (rows_sf _ _), Bool.and_eq_true_iff.2 ⟨sf_row (nbRow_map (fun y => rfl) _), rfl⟩⟩⟩⟩) (nbRow_map (fun y => rfl) _) rfl hEq rfl (Weak.refl _), ?_⟩
              (conv => whnf)
              (split <;> rename_i h <;> (try simp only [decide_eq_true_eq, decide_eq_false_iff_not, Bool.not_eq_true', Bool.not_eq_false', Bool.not_eq_true, Bool.not_eq_false, List.length_map] at h) <;> conv => whnf)
              · refine ⟨q, rfl, by omega, ?_⟩; (conv => whnf)
                refine ⟨_, hEq2, ?_⟩; (conv => whnf)
                (split <;> rename_i h' <;> (try simp only [decide_eq_true_eq, decide_eq_false_iff_not, Bool.not_eq_true', Bool.not_eq_false', Bool.not_eq_true, Bool.not_eq_false, List.length_map] at h') <;> conv => whnf)
                · refine ⟨c, rfl, by omega, ?_⟩; (conv => whnf)
                  refine ⟨_, hEc2, ?_⟩; (conv => whnf)
                  refine ⟨c, rfl, by rw [List.length_map]; omega, ?_⟩; (conv => whnf)
                  refine ⟨_, hcq, ?_⟩; (conv => whnf)
                  refine ⟨[(2, .one (.ptr 32 0)), (6, .one (.loc 448 0 i)), (8, .one (vN c)), (9, .one (.ptr 144 0)), (31, .one (vN i)), (32, .one (vN c)), (73, .one (.loc 448 0 i)), (74, .one (vN i)), (75, .one (vN q)), (83, .one (.loc 1001 0 (rw' E q).length)), (87, .one (.loc 1000 0 (rw' D c).length)), (91, .one (vN (cel E q c)))], [(32, .var [vN i, vN i, .dead]), (144, .var [vN c]), (448, .row false 1 (((E.map rN).set c [.loc 1000 0 (rw' G p).length]).set q [.loc 1001 0 ((rw' E q).map eNat).length])), (1001, .row true 1 ((rw' E q).map eNat)), (1000, .row true 1 ((rw' D c).map eNat))],
                    weak_of (all_cons rfl (all_cons rfl (all_cons rfl (all_cons rfl (all_cons rfl (all_cons rfl (all_cons rfl (all_cons rfl (all_cons rfl (all_cons (eq_loc rfl (by simp)) (all_cons (eq_loc rfl (by rw [hDc, sclR_len])) (all_cons rfl all_nil)))))))))))) (all_cons rfl (all_cons rfl (all_cons rfl (all_cons rfl (all_cons rfl all_nil))))) rfl (onm_cons rfl (onm_cons rfl (onm_cons (rows_only2 rfl rfl) (onm_cons rfl (onm_cons rfl onm_nil))))), _, _, _, _, [1001, 1000],
                    addTimes_c (by omega) (by rw [gD.rl hlt, hrq]) (gE.rb hqi) (gD.rb hlt) (gE.cb q c), rens_cons (ren_one (ren_loc rfl rfl)) (rens_cons (ren_one (ren_loc rfl rfl)) (rens_cons (ren_one (ren_lit rfl)) rens_nil)), hasRows_cons rfl (hasRows_cons rfl hasRows_nil), (by decide), rfl, Bool.or_eq_true_iff.2 (.inr (flat2 _ _)), rfl, ?_⟩
                  (conv => whnf)
                  (refine ⟨((q + 1 : Nat) : Int), by rw [← wrap64_id] <;> omega, ?_⟩; conv => whnf)
                  refine lg_back (q + 1) (by omega) (by (try dsimp only); omega) (weak_absorb_at 448 1001 q (es := ((E.map rN).set c [.loc 1000 0 (rw' G p).length]).set q [.loc 1001 0 ((rw' E q).map eNat).length]) (es2 := (addR (rw' E q) (rw' D c) (cel E q c)).map eNat) false (by decide) rfl ?_ rfl ?_ (weak_of allsA (all_cons rfl (all_cons rfl (all_cons (eq_row rfl ?_) (all_cons rfl all_nil)))) rfl (onm_cons rfl (onm_cons rfl (onm_cons (rows_only rfl) (onm_cons rfl onm_nil))))))
                  · rw [List.getElem?_set_self (by simp [hEl]; omega), List.length_map, List.length_map, addR_len (by rw [gD.rl hlt, hrq])]
                  · intro j e hj he
                    rw [List.getElem?_set_ne (Ne.symm hj)] at he
                    by_cases e1 : c = j
                    · subst e1
                      rw [List.getElem?_set_self (by simp [hEl]; omega)] at he
                      cases he
                      exact ⟨_, rfl, rfl, fun h => by cases h⟩
                    · rw [List.getElem?_set_ne e1] at he
                      obtain ⟨r, _, rfl⟩ := List.mem_map.1 (List.mem_of_getElem? he)
                      exact ⟨_, rfl, rfl, fun h => by cases h⟩
                  · rw [hE3, List.map_set, List.set_set, List.set_comm _ _ (Ne.symm hqc)]; rfl
                · omega
              · omega
          · have hqi2 : q = i := by omega
            have hGn : gzR (augR i M) (c + 1) = E := by rw [hG1, ← hqi2, hE']
            have hi1 : ((E.map rN).set c [.loc 1000 0 (rw' G p).length])[c]? = some [.loc 1000 0 ((rw' D c).map eNat).length] := by
              rw [List.getElem?_set_self (by simp [hEl]; omega), List.length_map, hDc, sclR_len]
            have hno : ∀ j e, j ≠ c → ((E.map rN).set c [.loc 1000 0 (rw' G p).length])[j]? = some e → ∃ x, e = [x] ∧ x.noref 1000 = true ∧ (true = true → x.isCell = true) := by
              intro j e hj he
              rw [List.getElem?_set_ne (Ne.symm hj)] at he
              obtain ⟨r, _, rfl⟩ := List.mem_map.1 (List.mem_of_getElem? he)
              exact ⟨_, rfl, rfl, fun _ => rfl⟩
            have hab : ((E.map rN).set c [.loc 1000 0 (rw' G p).length]).set c [.row true 1 ((rw' D c).map eNat)] = E.map rN := by
              rw [List.set_set, ← hEc]
              show (E.map rN).set c (rN (rw' E c)) = _
              rw [← List.map_set, set_rw (by omega)]
            refine ⟨_, Weak.refl _, ?_⟩
            (conv => whnf)
            (split <;> rename_i h <;> (try simp only [decide_eq_true_eq, decide_eq_false_iff_not, Bool.not_eq_true', Bool.not_eq_false', Bool.not_eq_true, Bool.not_eq_false, List.length_map] at h) <;> conv => whnf)
            · omega
            · (refine ⟨((c + 1 : Nat) : Int), by rw [← wrap64_id] <;> omega, ?_⟩; conv => whnf)
              (split <;> rename_i h2 <;> (try simp only [decide_eq_true_eq, decide_eq_false_iff_not, Bool.not_eq_true', Bool.not_eq_false', Bool.not_eq_true, Bool.not_eq_false, List.length_map] at h2) <;> conv => whnf)
              · refine ⟨_, weak_absorb_at 448 1000 c (es := (E.map rN).set c [.loc 1000 0 (rw' G p).length]) (es2 := (rw' D c).map eNat) true (by decide) rfl hi1 rfl hno (Weak.refl _), ?_⟩
                (conv => whnf)
                have hci : c + 1 = i := by omega
                refine ⟨rfl, ⟨close_row rfl rfl ?_ ?_, trivial⟩, rfl, ⟨close_int (by omega), trivial⟩, trivial⟩
                · rw [hab]; simp [hEl]
                · rw [hab, ← hGn, hci]
              · (refine ⟨((c + 1 : Nat) : Int), by rw [← wrap64_id] <;> omega, ?_⟩; conv => whnf)
                refine lg_back (c + 1) (by omega) (by (try dsimp only); omega) (weak_absorb_at 448 1000 c (es := (E.map rN).set c [.loc 1000 0 (rw' G p).length]) (es2 := (rw' D c).map eNat) true (by decide) rfl hi1 rfl hno (weak_of allsA (all_cons rfl (all_cons (eq_row rfl ?_) all_nil)) rfl rfl))
                rw [hab, hGn]
      · omega
    · have hci : c = i := by omega
      subst hci
      refine ⟨_, Weak.refl _, ?_⟩
      (conv => whnf)
      (split <;> rename_i hb2 <;> (try simp only [decide_eq_true_eq, decide_eq_false_iff_not, Bool.not_eq_true', Bool.not_eq_false', Bool.not_eq_true, Bool.not_eq_false, List.length_map] at hb2) <;> conv => whnf)
      · omega
      · refine ⟨_, Weak.refl _, ?_⟩; (conv => whnf)
        refine ⟨rfl, ⟨close_row rfl rfl (by simp [g.ok.len]) (by rw [hG]), trivial⟩, rfl, ⟨close_int rfl, trivial⟩, trivial⟩
end Go.Proofs.YthdejoipdgahiaaGreatDoor
namespace Go.Proofs.YthdejoipdgahiaaGreatDoor
open Go.RowKit
set_option linter.unusedSimpArgs false
set_option linter.unusedVariables false
set_option maxRecDepth 100000
set_option maxHeartbeats 4000000
theorem matrixOfB_c (ps : List (Bool × List Nat)) (rs : List (List Nat)) (hrs : rs = ps.map Prod.snd) (r0 : Bool × List Nat) (h0 : ps[0]? = some r0) (h1 : ps.length ≤ 4294967296) (h2 : rs.flatten.length ≤ 4294967296) :
    Fun1 Tryz.prog 127 [.one (.row true 1 (ps.map rB))] (.agg (matE ps.length r0.2.length rs.flatten)) := by
  refine fun1_of_vc tb_ok mix (fn := Tryz.f127) Tryz.func127 rfl (by kernel_rfl) (by kernel_rfl) (by simp [Tryz.f127]) (by exact matE_nb) ?_
  (conv => whnf)
  refine ⟨_, _, sizeRows_c (ps.map rB), lendA, ?_⟩; (conv => whnf)
  refine ⟨0, rfl, rB r0, by rw [List.getElem?_map, h0]; rfl, ?_⟩; (conv => whnf)
  refine ⟨_, _, sizeInts_c (r0.2.map eNat), lendA, ?_⟩; (conv => whnf)
  refine ⟨_, _, fun_ok 160 (concatB_c ps rs hrs h1 h2) lendA (fun x hx => by rw [List.mem_singleton.1 hx]; rfl), ?_⟩; (conv => whnf)
  exact ⟨close_int (by simp), close_int (by simp), close_row rfl rfl rfl rfl, trivial⟩
theorem invFn_c {k i : Nat} (hi : i < k) (hk : k ≤ 1000000) (cells : List (List AV)) : Fun1 Tryz.prog 170 [.one (vN i), .one (.bptr [vN k, vN k, .row false 1 cells] 0)] (.one (.row true 1 ((unitR i k).map eNat))) := by
  refine fun1_of_vc tb_ok mix (fn := Tryz.f170) Tryz.func170 rfl (by kernel_rfl) (by kernel_rfl) (by simp [Tryz.f170]) (by show AV.nb (4 + 1) _ = true; exact nb_map (n := 4) (fun y => rfl) _) ?_
  (conv => whnf)
  refine ⟨_, _, unitImpl_c hi hk, lendA, ?_⟩; (conv => whnf)
  exact ⟨close_row rfl rfl (by simp) rfl, trivial⟩
theorem pick_c {k m : Nat} {idx : List Nat} (hk : 1 ≤ k ∧ k ≤ 8) (hm : m ≤ 6) (hl : idx.length = k) (hi : ∀ i ∈ idx, i < k + m) :
    Fun1 Tryz.prog 138 [.agg (matE (k + m) k (cauchyN k m).flatten), .one (.row true 1 (idx.map eNat))] (.agg (matE k k (pickM k m idx).flatten)) := by
  have hfl : (cauchyN k m).flatten.length = (k + m) * k := cauchy_cells k m
  have hfb : (k + m) * k ≤ 14 * 8 := Nat.mul_le_mul (by omega) (by omega)
  have hpl : (pickM k m idx).length = k := by simp [pickM, hl]
  have hpk := pick_ok hk.2 hm hl hi
  have hpf : (pickM k m idx).flatten.length = k * k := by rw [flat_len' hpk.wid, hpk.len]
  have hkk : k * k ≤ 8 * 8 := Nat.mul_le_mul hk.2 hk.2
  have h0 : ∃ r0, (pickM k m idx)[0]? = some r0 ∧ r0.length = k := ⟨_, List.getElem?_eq_getElem (by omega), hpk.wid _ (List.getElem_mem _)⟩
  obtain ⟨r0, hr0, hrl0⟩ := h0
  have hM := matrixOfB_c ((pickM k m idx).map fun r => (false, r)) (pickM k m idx) (by simp [Function.comp_def]) (false, r0) (by rw [List.getElem?_map, hr0]; rfl) (by simp [hpl]; omega) (by omega)
  rw [List.length_map, hpl, hrl0] at hM
  refine fun1_of_vc tb_ok mix (fn := Tryz.f138) Tryz.func138 rfl (by kernel_rfl) (by kernel_rfl) (by simp [Tryz.f138]) (by exact matE_nb) ?_
  (conv => whnf)
  refine ⟨LG (fun i : Nat => i ≤ k) (fun i => k - i) (fun i => AS.of [(2, .one (.ptr 32 0)), (4, .one (.ptr 64 0)), (5, .one (.loc 304 0 i)), (8, .one (.row true 1 (idx.map eNat))), (9, .one (vN k)), (10, .one (vN i))] [(32, .var [vN (k + m), vN k, .row true 1 ((cauchyN k m).flatten.map eNat)]), (64, .var [.lit (.int .i64 0), .lit (.int .i64 0), .lit (.slice none 0 0)]), (304, .row true 1 (((pickM k m idx).take i).map fun r => rB (false, r)))]),
    lg_init 0 (by omega) (weak_nil 5 304 1 rfl rfl (weak_of (all_cons rfl (all_cons rfl (all_cons rfl (all_cons rfl (all_cons (eq_int rfl (by simp [hl])) (all_cons rfl all_nil)))))) allsA rfl rfl)), ?_⟩
  rintro σ j ⟨i, hi', rfl, rfl⟩
  refine ⟨_, Weak.refl _, ?_⟩
  (conv => whnf)
  (split <;> rename_i hb <;> (try simp only [decide_eq_true_eq, decide_eq_false_iff_not, Bool.not_eq_true', Bool.not_eq_false', Bool.not_eq_true, Bool.not_eq_false, List.length_map] at hb) <;> conv => whnf)
  · have hlt : i < k := by omega
    have hii : i < idx.length := by omega
    have hx := hi _ (List.getElem_mem hii)
    have hrl : (idx[i] + 1) * k ≤ (cauchyN k m).flatten.length := row_len hfl hx
    refine ⟨i, rfl, _, at_map hii, ?_⟩; (conv => whnf)
    refine ⟨_, _, sub_ok (rowSub_c (r := k + m) (c := k) (cs := (cauchyN k m).flatten) (o := false) (i := idx[i]) hrl (by omega) (by omega)) rfl rfl lendA rfl (by rw [List.length_map]; rw [Nat.add_mul] at hrl; omega), ?_⟩; (conv => whnf)
    refine ⟨_, _, ⟨rfl, Nat.le_refl _, rfl, rfl⟩, ?_⟩; (conv => whnf)
    refine ⟨_, rfl, rfl, by simp [hpl]; omega, rfl, by simp [maxLen, chunk, hpl]; omega, by simp [chunk, hpl]; omega, ?_⟩; (conv => whnf)
    (refine ⟨((i + 1 : Nat) : Int), by rw [← wrap64_id] <;> omega, ?_⟩; conv => whnf)
    have hpi : (pickM k m idx)[i]'(by omega) = rw' (cauchyN k m) idx[i] := by simp [pickM]
    have hrow : (((cauchyN k m).flatten.map eNat).drop (idx[i] * k)).take k = ((pickM k m idx)[i]'(by omega)).map eNat := by
      rw [← List.map_drop, ← List.map_take, flat_row (fun r hr => cauchyN_row r hr) idx[i] (by simp; omega), hpi]
    refine lg_back (i + 1) (by omega) (by (try dsimp only); omega) (weak_of (all_cons rfl (all_cons rfl (all_cons (eq_loc rfl (by simp [chunk, hpl]; omega)) (all_cons rfl (all_cons rfl (all_cons rfl all_nil)))))) (all_cons rfl (all_cons rfl (all_cons (eq_row rfl ?_) all_nil))) rfl rfl)
    rw [List.take_succ_eq_append_getElem (show i < (pickM k m idx).length by omega), List.map_append]
    show _ ++ [[AV.row false 1 ((((cauchyN k m).flatten.map eNat).drop (idx[i] * k)).take k)]] = _
    rw [hrow]; rfl
  · have : i = k := by omega
    subst this
    refine ⟨_, _, hM, lends_cons (lend_one (la_loc rfl rfl rfl (by simp [hpl]) (by rw [List.take_of_length_le (show (pickM i m idx).length ≤ i by omega), List.map_map]; rfl))) lends_nil, ?_⟩; (conv => whnf)
    exact ⟨close_int rfl, close_int rfl, close_row rfl rfl (by simp) rfl, trivial⟩
end Go.Proofs.YthdejoipdgahiaaGreatDoor
namespace Go.Proofs.YthdejoipdgahiaaGreatDoor
open Go.RowKit
set_option linter.unusedSimpArgs false
set_option linter.unusedVariables false
set_option maxRecDepth 100000
set_option maxHeartbeats 4000000
theorem inv_nb (k : Nat) (cs : List Nat) : (T.tup [(true, matE k k cs), (false, [.lit (.bool true)])]).nb = true := by
  have : AV.nb (4 + 1) (.row true 1 (cs.map eNat)) = true := nb_map (n := 4) (fun y => rfl) _
  simp only [T.nb, matE, List.all_cons, List.all_nil, this]; rfl
theorem inverse_c {k : Nat} {M : List (List Nat)} (hk : 1 ≤ k ∧ k ≤ 8) (h : RowsOk k k M) (hn : NSR k k (cel M)) :
    Fun1 Tryz.prog 139 [.agg (matE k k M.flatten)] (.tup [(true, matE k k (invM k M).flatten), (false, [.lit (.bool true)])]) := by
  have hr := reduced_c (xs := [vN k, vN k, .row false 1 (M.flatten.map eNat)]) (gf := 170) hk h hn rfl (fun i hi => invFn_c hi (by omega) _)
  have hGl : (gzR (augR k M) k).length = k := (gzI h hn k (Nat.le_refl k)).ok.len
  refine fun1_of_vc tb_ok mix (fn := Tryz.f139) Tryz.func139 rfl (by kernel_rfl) (by kernel_rfl) (by simp [Tryz.f139]) (by exact inv_nb _ _) ?_
  (conv => whnf)
  refine ⟨_, _, hr, lends_cons (lend_bor rfl rfl) (lends_cons (lend_one (la_fn rfl (all2_cons (la_ptr rfl rfl rfl (all2_cons (la_lit rfl) (all2_cons (la_lit rfl) (all2_cons (la_row rfl rfl) all2_nil)))) all2_nil))) lends_nil), ?_⟩; (conv => whnf)
  (split <;> rename_i hb0 <;> (try simp only [decide_eq_true_eq, decide_eq_false_iff_not, Bool.not_eq_true', Bool.not_eq_false', Bool.not_eq_true, Bool.not_eq_false, List.length_map] at hb0) <;> conv => whnf)
  · omega
  · refine ⟨LG (fun i : Nat => i ≤ k) (fun i => k - i) (fun i => AS.of [(2, .one (.ptr 32 0)), (1, .one (.ptr 16 0)), (4, .one (.loc 176 0 k)), (19, .one (.loc 176 0 k)), (20, .one (vN k)), (21, .one (vN i))] [(16, .var [vN k, vN k, .dead]), (32, .var [.lit (.int .i64 0), .lit (.int .i64 0), .lit (.slice none 0 0)]), (176, .row true 1 ((((gzR (augR k M) k).take i).map fun r => rB (false, r.drop k)) ++ ((gzR (augR k M) k).drop i).map rN))]),
      lg_init 0 (by omega) (weak_dim 16 _ [vN k, vN k, .dead] rfl ⟨.inl rfl, .inl rfl, .inr rfl, trivial⟩ (weak_of (all_cons rfl (all_cons rfl (all_cons (eq_loc rfl (by simp [hGl])) (all_cons (eq_loc rfl (by simp [hGl])) (all_cons (eq_int rfl (by simp [hGl])) (all_cons rfl all_nil)))))) allsA rfl rfl)), ?_⟩
    rintro σ j ⟨i, hi, rfl, rfl⟩
    refine ⟨_, Weak.refl _, ?_⟩
    (conv => whnf)
    (split <;> rename_i hb <;> (try simp only [decide_eq_true_eq, decide_eq_false_iff_not, Bool.not_eq_true', Bool.not_eq_false', Bool.not_eq_true, Bool.not_eq_false, List.length_map] at hb) <;> conv => whnf)
    · have hlt : i < k := by omega
      obtain ⟨L, hL⟩ : ∃ L, gzR (augR k M) k = L := ⟨_, rfl⟩
      have gL := (gzI h hn k (Nat.le_refl k)).ok
      rw [hL] at gL
      have hLl := gL.len
      have hri : (L[i]'(by omega)).length = 2 * k := gL.wid _ (List.getElem_mem _)
      have hge : (((L.take i).map fun r => rB (false, r.drop k)) ++ (L.drop i).map rN)[0 + i]? = some (rN (L[i]'(by omega))) := by
        rw [Nat.zero_add, List.getElem?_append_right (by simp; omega), List.getElem?_map, List.getElem?_drop]
        simp [hLl, Nat.min_eq_left (Nat.le_of_lt hlt), List.getElem?_eq_getElem (show i < L.length by omega)]
      rw [hL]
      refine ⟨i, rfl, hlt, ?_⟩; (conv => whnf)
      refine ⟨_, hge, ?_⟩; (conv => whnf)
      refine ⟨by simp only [Option.getD]; omega, by simp only [Option.getD, List.length_map]; omega, by simp only [Option.getD]; omega, ((L[i]'(by omega)).drop k).map eNat, ?_, ?_⟩
      · simp only [Option.getD, List.length_map]
        rw [List.take_of_length_le (by simp only [List.length_drop, List.length_map, hri]; omega), List.map_drop]; rfl
      (conv => whnf)
      refine ⟨i, rfl, hlt, ?_⟩; (conv => whnf)
      refine ⟨_, hge, ?_⟩; (conv => whnf)
      refine ⟨_, rfl, ?_⟩; (conv => whnf)
      (refine ⟨((i + 1 : Nat) : Int), by rw [← wrap64_id] <;> omega, ?_⟩; conv => whnf)
      refine lg_back (i + 1) (by omega) (by (try dsimp only); omega) (weak_of allsA (all_cons rfl (all_cons rfl (all_cons (eq_row rfl ?_) all_nil))) rfl rfl)
      show (((L.take i).map fun r => rB (false, r.drop k)) ++ (L.drop i).map rN).set (0 + i) (rB (false, (L[i]'(by omega)).drop k)) = _
      rw [Nat.zero_add, List.drop_eq_getElem_cons (show i < L.length by omega), List.map_cons, List.set_append_right _ _ (by simp; omega), List.take_succ_eq_append_getElem (show i < L.length by omega), List.map_append, List.append_assoc,
        show i - ((L.take i).map fun r => rB (false, r.drop k)).length = 0 by simp; omega]
      rfl
    · have hik : i = k := by omega
      have hI := invM_ok h hn
      have h0 : ∃ r0, ((invM k M).map fun r => (false, r))[0]? = some r0 ∧ r0.2.length = k := ⟨_, by rw [List.getElem?_map, List.getElem?_eq_getElem (show 0 < (invM k M).length by rw [hI.len]; omega)]; rfl, hI.wid _ (List.getElem_mem _)⟩
      obtain ⟨r0, hr0, hrl⟩ := h0
      have hfl : (invM k M).flatten.length = k * k := by rw [flat_len' hI.wid, hI.len]
      have hkk : k * k ≤ 8 * 8 := Nat.mul_le_mul hk.2 hk.2
      have hM := matrixOfB_c ((invM k M).map fun r => (false, r)) (invM k M) (by simp [Function.comp_def]) r0 hr0 (by rw [List.length_map, hI.len]; omega) (by omega)
      rw [List.length_map, hI.len, hrl] at hM
      refine ⟨_, _, hM, lends_cons (lend_one (la_loc rfl rfl rfl (by simp [hGl]; omega) (by subst hik; rw [List.take_of_length_le (by omega), List.drop_of_length_le (by omega)]; simp [invM, Function.comp_def]))) lends_nil, ?_⟩; (conv => whnf)
      exact ⟨rfl, ⟨close_int rfl, close_int rfl, close_row rfl rfl (by simp) rfl, trivial⟩, rfl, ⟨close_bool rfl, trivial⟩, trivial⟩
end Go.Proofs.YthdejoipdgahiaaGreatDoor
namespace Go.Proofs.YthdejoipdgahiaaGreatDoor
open Go.RowKit
set_option linter.unusedSimpArgs false
set_option linter.unusedVariables false
set_option maxRecDepth 100000
set_option maxHeartbeats 4000000
structure Sh where
  have_ : Bool
  text : ByteArray
def Sh.enc (s : Sh) : List AV := [.lit (.bool s.have_), .lit (.string s.text)]
def Sh.none : Sh := ⟨false, .empty⟩
def hasS (l : List Sh) (i : Nat) : Bool := (l.getD i .none).have_
def txtS (l : List Sh) (i : Nat) : ByteArray := (l.getD i .none).text
theorem getSh_at {l : List Sh} {i : Nat} (h : i < l.length) : l.getD i .none = l[i] := by rw [List.getD_eq_getElem?_getD, List.getElem?_eq_getElem h]; rfl
theorem hasS_at {l : List Sh} {i : Nat} (h : i < l.length) : hasS l i = l[i].have_ := by rw [hasS, getSh_at h]
theorem txtS_at {l : List Sh} {i : Nat} (h : i < l.length) : txtS l i = l[i].text := by rw [txtS, getSh_at h]
theorem idxN_take {k i : Nat} {h : Nat → Bool} (h1 : h i = true) (h2 : (idxN k i h).length < k) : idxN k (i + 1) h = idxN k i h ++ [i] := by
  unfold idxN at h2 ⊢
  rw [List.length_take] at h2
  rw [List.range_succ, List.filter_append, List.filter_cons_of_pos h1, List.filter_nil, List.take_of_length_le (l := List.filter h (List.range i)) (by omega), List.take_of_length_le (by rw [List.length_append, List.length_singleton]; omega)]
theorem idxN_skip {k i : Nat} {h : Nat → Bool} (h1 : h i = false ∨ k ≤ (idxN k i h).length) : idxN k (i + 1) h = idxN k i h := by
  unfold idxN at h1 ⊢
  rw [List.length_take] at h1
  rw [List.range_succ, List.filter_append]
  rcases h1 with h1 | h1
  · rw [List.filter_cons_of_neg (by simp [h1]), List.filter_nil, List.append_nil]
  · rw [List.take_append_of_le_length (by omega)]
theorem idxN_le (k n : Nat) (h : Nat → Bool) : (idxN k n h).length ≤ k := by unfold idxN; rw [List.length_take]; omega
theorem idxN_full {k i : Nat} {h : Nat → Bool} (h1 : k ≤ (idxN k i h).length) : ∀ d, idxN k (i + d) h = idxN k i h
  | 0 => rfl
  | d + 1 => by rw [← Nat.add_assoc, idxN_skip (.inr (by rw [idxN_full h1 d]; exact h1)), idxN_full h1 d]
theorem idxN_cnt {k n : Nat} {h : Nat → Bool} (h1 : k ≤ (idxN k n h).length) : k ≤ ((List.range n).filter h).length := by
  unfold idxN at h1; rw [List.length_take] at h1; omega
def idxS (k m : Nat) (l : List Sh) : List Nat := idxN k (k + m) (hasS l)
def txsS (k m : Nat) (l : List Sh) : List ByteArray := (idxS k m l).map (txtS l)
def dataS (k m L : Nat) (l : List Sh) : List ByteArray := combN k k (invM k (pickM k m (idxS k m l))).flatten (txsS k m l) L
def catN (l : List ByteArray) : List UInt8 := (l.map fun t => t.data.toList).flatten
def decT (k m L size : Nat) (l : List Sh) : ByteArray := if (idxS k m l).length < k then .empty else txtOf ((catN (dataS k m L l)).take size)
def decC (k m : Nat) (l : List Sh) : Nat := if (idxS k m l).length < k then 10 else 0
theorem combN_len (r c : Nat) (cs : List Nat) (ts : List ByteArray) (L : Nat) : (combN r c cs ts L).length = r := by simp [combN]
theorem combN_size {r c : Nat} {cs : List Nat} {ts : List ByteArray} {L : Nat} : ∀ t ∈ combN r c cs ts L, t.size = L := by
  intro t ht
  obtain ⟨i, _, rfl⟩ := List.mem_map.1 ht
  rw [txtOf_size, lineN_len]
theorem catN_len {l : List ByteArray} {L : Nat} (h : ∀ t ∈ l, t.size = L) : (catN l).length = l.length * L := by
  unfold catN
  induction l with
  | nil => simp
  | cons x l ih => rw [List.map_cons, List.flatten_cons, List.length_append, ih (fun t ht => h t (by simp [ht])), List.length_cons, Nat.add_mul, Nat.one_mul, ← h x (by simp)]; simp [Nat.add_comm]
theorem txsS_size {k m L : Nat} {l : List Sh} (hl : l.length = k + m) (h : ∀ s ∈ l, s.have_ = true → s.text.size = L) : ∀ t ∈ txsS k m l, t.size = L := by
  intro t ht
  obtain ⟨i, hi, rfl⟩ := List.mem_map.1 ht
  have := idxN_mem hi
  have h1 := this.1
  have h2 := this.2
  rw [hasS_at (by omega)] at h2
  rw [txtS_at (by omega)]
  exact h _ (List.getElem_mem _) h2
theorem txsS_len (k m : Nat) (l : List Sh) : (txsS k m l).length = (idxS k m l).length := by simp [txsS]
theorem join_flat (xs : List (List UInt8)) : Lib.join xs [] = xs.flatten := by
  cases xs with
  | nil => rfl
  | cons x r => rw [Lib.join_cons, Lib.joinTail]; simp
def joinLay_ren : Go.Shelf.Ren := ⟨fun | 156 => 104 | 165 => 140 | 166 => 141 | 169 => 142 | 240 => 171 | 241 => 172 | 276 => 192 | 277 => 193 | n => n, fun | 31 => 52 | 9 => 9 | 3 => 3 | 4 => 4 | 0 => 0 | 20 => 20 | 72 => 184 | 76 => 188 | 70 => 182 | 37 => 93 | 75 => 187 | 127 => 213 | 164 => 235 | 5 => 5 | 80 => 131 | n => n, fun | n => n⟩
theorem joinLay : Go.Proofs.Lays.n156 Tryz.prog joinLay_ren := {
  mixed := by kernel_rfl
  f156 := Tryz.func104.trans (congrArg some (by kernel_rfl))
  f165 := Tryz.func140.trans (congrArg some (by kernel_rfl))
  f166 := Tryz.func141.trans (congrArg some (by kernel_rfl))
  f169 := Tryz.func142.trans (congrArg some (by kernel_rfl))
  f240 := Tryz.func171.trans (congrArg some (by kernel_rfl))
  f241 := Tryz.func172.trans (congrArg some (by kernel_rfl))
  f276 := Tryz.func192.trans (congrArg some (by kernel_rfl))
  f277 := Tryz.func193.trans (congrArg some (by kernel_rfl))
  t0 := Tryz.underlying0
  a0 := Tryz.isAgg0
  z0 := Tryz.sizeOf0
  v0 := Tryz.zeroValue0
  t3 := Tryz.underlying3
  a3 := Tryz.isAgg3
  z3 := Tryz.sizeOf3
  v3 := Tryz.zeroValue3
  t4 := Tryz.underlying4
  a4 := Tryz.isAgg4
  z4 := Tryz.sizeOf4
  v4 := Tryz.zeroValue4
  t9 := Tryz.underlying9
  a9 := Tryz.isAgg9
  z9 := Tryz.sizeOf9
  v9 := Tryz.zeroValue9
  t20 := Tryz.underlying20
  a20 := Tryz.isAgg20
  z20 := Tryz.sizeOf20
  v20 := Tryz.zeroValue20
  t31 := Tryz.underlying52
  a31 := Tryz.isAgg52
  z31 := Tryz.sizeOf52
  v31 := Tryz.zeroValue52
  t37 := Tryz.underlying93
  a37 := Tryz.isAgg93
  z37 := Tryz.sizeOf93
  v37 := Tryz.zeroValue93
  t70 := Tryz.underlying182
  a70 := Tryz.isAgg182
  z70 := Tryz.sizeOf182
  v70 := Tryz.zeroValue182
  t72 := Tryz.underlying184
  a72 := Tryz.isAgg184
  z72 := Tryz.sizeOf184
  v72 := Tryz.zeroValue184
  t75 := Tryz.underlying187
  a75 := Tryz.isAgg187
  z75 := Tryz.sizeOf187
  v75 := Tryz.zeroValue187
  t76 := Tryz.underlying188
  a76 := Tryz.isAgg188
  z76 := Tryz.sizeOf188
  v76 := Tryz.zeroValue188
  t127 := Tryz.underlying213
  a127 := Tryz.isAgg213
  z127 := Tryz.sizeOf213
  v127 := Tryz.zeroValue213
  t164 := Tryz.underlying235
  a164 := Tryz.isAgg235
  z164 := Tryz.sizeOf235
  v164 := Tryz.zeroValue235 }
theorem joinX : Go.Proofs.Builder.Extra Tryz.prog joinLay_ren where
  sizeBuilder := by kernel_rfl
  liesBuilder := by kernel_rfl
  t5 := Tryz.underlying5
  a5 := Tryz.isAgg5
  z5 := Tryz.sizeOf5
  v5 := Tryz.zeroValue5
  infoByte := by kernel_rfl
  cellsByte := by kernel_rfl
  sizeByte := by kernel_rfl
  neB5 := by decide
theorem join_c {o : Bool} (xs : List ByteArray) (h0 : 0 < xs.length) (hN : xs.length ≤ 1000) (hl : (catN xs).length ≤ 1000000) : Fun1 Tryz.prog 104 [.one (.row o 1 (xs.map eStr)), .one (.lit (.string ⟨#[]⟩))] (.one (.lit (.string (txtOf (catN xs))))) := by
  refine ⟨⟨_, Tryz.func104, by kernel_rfl, by kernel_rfl⟩, rfl, fun w I vs hI _ hargs => ?_⟩
  obtain ⟨vs⟩ := vs
  match vs, hargs with
  | [x, y], hargs =>
    have hx := hargs.1.1
    have hy := hargs.2.1.1
    cases hy
    cases hx with
    | @row _ _ _ A cap b of vals a1 a2 a3 a4 a0 a5 a6 a7 =>
      obtain ⟨hA, hb⟩ := a3 (by simpa using h0)
      subst hA
      have hj : Lib.join (xs.map (·.data.toList)) (ByteArray.mk #[]).data.toList = catN xs := join_flat _
      have key := Go.Proofs.Any.strings_Join joinLay joinX b of cap xs ⟨#[]⟩ w (fun j x hx => by
        have he : elt (xs.map eStr) j 0 = some (.lit (.string x)) := by unfold elt; rw [List.getElem?_map, hx]; rfl
        have h1 := a5 j 0 _ he
        have h2 := a7 j 0 _ he
        rw [Nat.mul_one, Nat.add_zero] at h1
        rw [h1]
        congr 1
        generalize vals j 0 = v at h2
        cases h2; rfl) (hI b hb) (by omega) (by simpa using a1) (by rw [hj]; omega)
      rw [List.length_map]
      refine key.mono ?_
      rintro e w' ⟨rfl, hbl⟩
      rw [hj]
      exact ⟨_, fun _ => False, rfl, ⟨.plain rfl (.lit _) (fun _ h => h), rfl⟩, fun _ h => h.elim, ⟨hbl.os, hbl.tape, hbl.output, hbl.size, hbl.block, fun q => by cases q⟩⟩
end Go.Proofs.YthdejoipdgahiaaGreatDoor
namespace Go.Proofs.YthdejoipdgahiaaGreatDoor
open Go.RowKit
set_option linter.unusedSimpArgs false
set_option linter.unusedVariables false
set_option maxRecDepth 100000
set_option maxHeartbeats 4000000
def numL : Nat → Nat → List UInt8
  | 0, u => [UInt8.ofNat u]
  | f + 1, u => if 128 ≤ u then UInt8.ofNat (u % 128 + 128) :: numL f (u / 128) else [UInt8.ofNat u]
theorem numL_len : ∀ f u, 1 ≤ (numL f u).length ∧ (numL f u).length ≤ f + 1
  | 0, u => ⟨Nat.le_refl _, Nat.le_refl _⟩
  | f + 1, u => by
    unfold numL
    have := numL_len f (u / 128)
    split <;> simp <;> omega
def putN (n : Nat) : ByteArray := txtOf (numL 10 (2 * n))
theorem putN_size (n : Nat) : (putN n).size ≤ 11 := (numL_len 10 (2 * n)).2
def numI (R : List UInt8) (p : List UInt8 × Nat × Nat) : Prop := p.2.1 < 128 ^ (p.2.2 + 1) ∧ p.2.1 < 4611686018427387904 ∧ p.1.length + p.2.2 = 10 ∧ p.1 ++ numL p.2.2 p.2.1 = R
theorem numI_step {R d : List UInt8} {u f : Nat} (h : numI R (d, u, f)) (hu : 128 ≤ u) : ∃ g, f = g + 1 ∧ numI R (d ++ [UInt8.ofNat (u % 128 + 128)], u / 128, g) := by
  obtain ⟨h1, h2, h3, h4⟩ := h
  simp only at h1 h2 h3 h4
  cases f with
  | zero => simp at h1; omega
  | succ g =>
    refine ⟨g, rfl, ?_, ?_, ?_, ?_⟩
    · show u / 128 < 128 ^ (g + 1)
      rw [Nat.pow_succ] at h1
      exact Nat.div_lt_of_lt_mul (by omega)
    · show u / 128 < _; omega
    · show (d ++ [_]).length + g = 10; simp; omega
    · show (d ++ [UInt8.ofNat (u % 128 + 128)]) ++ numL g (u / 128) = R
      rw [← h4, numL, if_pos hu, List.append_assoc]; rfl
theorem numI_end {R d : List UInt8} {u f : Nat} (h : numI R (d, u, f)) (hu : ¬ 128 ≤ u) : d ++ [UInt8.ofNat u] = R := by
  obtain ⟨_, _, _, h4⟩ := h
  simp only at h4
  rw [← h4]
  cases f with
  | zero => rfl
  | succ g => rw [numL, if_neg hu]
theorem numI_zero {n : Nat} (hn : n < 1099511627776) : numI (numL 10 (2 * n)) ([], 2 * n, 10) := ⟨by show 2 * n < 128 ^ 11; omega, by show 2 * n < _; omega, rfl, rfl⟩
theorem wrapU {n : Nat} (h : n < 18446744073709551616) : IntKind.u64.wrap (n : Int) = (n : Int) := by rw [IntKind.wrap_u64]; omega
theorem and127 {u : Nat} (h : u < 4611686018427387904) : bits .and .u64 (u : Int) 127 = ((u % 128 : Nat) : Int) := by
  show IntKind.u64.wrap ((BitVec.ofInt 64 (u : Int) &&& BitVec.ofInt 64 ((127 : Nat) : Int)).toNat : Int) = _
  rw [BitVec.toNat_and, ofIntN _ (by omega), ofIntN _ (by omega), show (127 : Nat) = 2 ^ 7 - 1 from rfl, Nat.and_two_pow_sub_one_eq_mod]
  exact wrapU (by omega)
theorem or128 {x : Nat} (h : x < 128) : bits .or .u8 (x : Int) 128 = (((UInt8.ofNat (x + 128)).toNat : Nat) : Int) := by
  show IntKind.u8.wrap ((BitVec.ofInt 8 (x : Int) ||| BitVec.ofInt 8 ((128 : Nat) : Int)).toNat : Int) = _
  rw [BitVec.toNat_or, ofIntN _ (by omega), ofIntN _ (by omega), (by decide +kernel : ∀ x, x < 128 → x ||| 128 = x + 128) x h]
  exact u8_wrapI _
theorem xor0U {u : Nat} (h : u < 4611686018427387904) : bits .xor .u64 (u : Int) 0 = (u : Int) := by
  show IntKind.u64.wrap ((BitVec.ofInt 64 (u : Int) ^^^ BitVec.ofInt 64 ((0 : Nat) : Int)).toNat : Int) = _
  rw [BitVec.toNat_xor, ofIntN _ (by omega), ofIntN _ (by omega), Nat.xor_zero]
  exact wrapU (by omega)
abbrev vU (n : Nat) : AV := .lit (.int .u64 (n : Int))
theorem putImpl_c {n : Nat} (hn : n < 1099511627776) : Fun1 Tryz.prog 129 [.one (.lit (.int .i64 (n : Int)))] (.one (.lit (.string (putN n)))) := by
  refine fun1_of_vc tb_ok mix (fn := Tryz.f129) Tryz.func129 rfl (by kernel_rfl) (by kernel_rfl) (by simp [Tryz.f129]) (by rfl) ?_
  (conv => whnf)
  refine ⟨(n : Int), (wrapU (by omega)).symm, ?_⟩; (conv => whnf)
  refine ⟨by decide, ((2 * n : Nat) : Int), ?_, ?_⟩
  · show _ = IntKind.u64.wrap ((n : Int) * 2)
    rw [show (n : Int) * 2 = ((2 * n : Nat) : Int) by omega]; exact (wrapU (by omega)).symm
  (conv => whnf)
  refine ⟨by decide, 0, ?_, ?_⟩
  · show (0 : Int) = (n : Int).fdiv (2 ^ 63)
    rw [Int.fdiv_eq_ediv_of_nonneg _ (by omega)]; omega
  (conv => whnf)
  refine ⟨0, by decide, ?_⟩; (conv => whnf)
  rw [xor0U (by omega)]
  refine ⟨LG (numI (numL 10 (2 * n))) (fun p => p.2.1) (fun p => AS.of [(3, .one (vU p.2.1)), (4, .one (.loc 320 0 p.1.length))] [(320, .row true 1 (p.1.map byteE))]),
    lg_init ([], 2 * n, 10) (numI_zero hn) (weak_nil 4 320 1 rfl rfl (weak_of allsA allsA rfl rfl)), ?_⟩
  rintro σ k ⟨⟨d, u, f⟩, hI, hk, rfl⟩
  have ⟨h1, h2, h3, h4⟩ := hI
  simp only at h1 h2 h3 h4 hk
  refine ⟨_, Weak.refl _, ?_⟩
  (conv => whnf)
  (split <;> rename_i h <;> (try simp only [decide_eq_true_eq, decide_eq_false_iff_not, Bool.not_eq_true', Bool.not_eq_false', Bool.not_eq_true, Bool.not_eq_false, List.length_map] at h) <;> conv => whnf)
  · obtain ⟨g, rfl, hI'⟩ := numI_step hI (by omega)
    have ha := and127 (u := u) h2
    rw [ha]
    refine ⟨((u % 128 : Nat) : Int), by rw [IntKind.wrap_u8]; omega, ?_⟩; (conv => whnf)
    rw [or128 (by omega : u % 128 < 128)]
    refine ⟨true, [byteE (UInt8.ofNat (u % 128 + 128))], ⟨rfl, by simp [chunk], rfl, rfl⟩, ?_⟩; (conv => whnf)
    refine ⟨_, laid_map (f := byteE) (fun _ => rfl) [UInt8.ofNat (u % 128 + 128)], rfl, by simp, rfl, by simp [maxLen]; omega, by simp; omega, ?_⟩; (conv => whnf)
    refine ⟨by decide, ((u / 128 : Nat) : Int), ?_, ?_⟩
    · show _ = (u : Int).fdiv (2 ^ 7)
      rw [Int.fdiv_eq_ediv_of_nonneg _ (by omega)]; omega
    (conv => whnf)
    exact lg_back (d ++ [UInt8.ofNat (u % 128 + 128)], u / 128, g) hI' (by show u / 128 < k; omega) (weak_of (all_cons rfl (all_cons (eq_loc rfl (by simp)) all_nil)) (all_cons (eq_row rfl (by simp)) all_nil) rfl rfl)
  · have he := numI_end hI (by omega)
    refine ⟨_, (u8_wrapI u).symm, ?_⟩; (conv => whnf)
    refine ⟨true, [byteE (UInt8.ofNat u)], ⟨rfl, by simp [chunk], rfl, rfl⟩, ?_⟩; (conv => whnf)
    refine ⟨_, laid_map (f := byteE) (fun _ => rfl) [UInt8.ofNat u], rfl, by simp, rfl, by simp [maxLen]; omega, by simp; omega, ?_⟩; (conv => whnf)
    refine ⟨true, _, d ++ [UInt8.ofNat u], ⟨rfl, by simp, rfl, rfl⟩, by rw [List.drop_zero, List.map_append]; exact List.take_of_length_le (by simp), ?_⟩; (conv => whnf)
    exact ⟨close_str (by rw [he]; rfl), trivial⟩
end Go.Proofs.YthdejoipdgahiaaGreatDoor
namespace Go.Proofs.YthdejoipdgahiaaGreatDoor
open Go.RowKit
set_option linter.unusedSimpArgs false
set_option linter.unusedVariables false
theorem u32_lt (x : UInt32) : x.toNat < 4294967296 := x.toNat_lt
theorem u32_wrap (x : UInt32) : IntKind.u32.wrap (x.toNat : Int) = (x.toNat : Int) := by
  rw [IntKind.wrap_u32]; have := u32_lt x; omega
theorem u32_add (x y : UInt32) : IntKind.u32.wrap ((x.toNat : Int) + (y.toNat : Int)) = ((x + y).toNat : Int) := by
  rw [IntKind.wrap_u32, UInt32.toNat_add]; omega
theorem ofInt_nat (n : Nat) {k : Nat} (h : n < 2 ^ k) : (BitVec.ofInt k (n : Int)).toNat = n := by
  rw [BitVec.ofInt_natCast, BitVec.toNat_ofNat]; exact Nat.mod_eq_of_lt h
theorem u32_xor (x y : UInt32) : bits .xor .u32 (x.toNat : Int) (y.toNat : Int) = ((x ^^^ y).toNat : Int) := by
  have hx := u32_lt x
  have hy := u32_lt y
  show IntKind.u32.wrap ((BitVec.ofInt 32 (x.toNat : Int) ^^^ BitVec.ofInt 32 (y.toNat : Int)).toNat : Int) = _
  rw [BitVec.toNat_xor, ofInt_nat _ hx, ofInt_nat _ hy, UInt32.toNat_xor, IntKind.wrap_u32]
  have := Nat.xor_lt_two_pow (n := 32) hx hy
  omega
theorem u32_or (x y : UInt32) : bits .or .u32 (x.toNat : Int) (y.toNat : Int) = ((x ||| y).toNat : Int) := by
  rw [(bits_nat .u32 32 (by decide) (fun n h h' => by rw [IntKind.wrap_u32]; omega) x.toNat y.toNat (u32_lt x) (u32_lt y)).2, UInt32.toNat_or]
theorem u32_and (x y : UInt32) : bits .and .u32 (x.toNat : Int) (y.toNat : Int) = ((x &&& y).toNat : Int) := by
  rw [(bits_nat .u32 32 (by decide) (fun n h h' => by rw [IntKind.wrap_u32]; omega) x.toNat y.toNat (u32_lt x) (u32_lt y)).1, UInt32.toNat_and]
theorem u32_not (x : UInt32) : bits .xor .u32 (IntKind.u32.max) (x.toNat : Int) = ((~~~x).toNat : Int) := by
  have e : IntKind.u32.max = ((4294967295 : UInt32).toNat : Int) := by decide
  rw [e, u32_xor]
  congr 2
theorem pow2_cast (k : Nat) : (2 : Int) ^ k = ((2 ^ k : Nat) : Int) := (Int.natCast_pow 2 k).symm
theorem u32_k {k : Nat} (hk : k < 32) : (UInt32.ofNat k).toNat % 32 = k := by rw [UInt32.toNat_ofNat']; omega
theorem u32_shr (x : UInt32) (k : Nat) (hk : k < 32) : (x.toNat : Int).fdiv (2 ^ k) = ((x >>> UInt32.ofNat k).toNat : Int) := by
  rw [UInt32.toNat_shiftRight, u32_k hk, Nat.shiftRight_eq_div_pow, pow2_cast, Int.fdiv_eq_ediv_of_nonneg _ (Int.natCast_nonneg _)]
  exact (Int.natCast_ediv _ _).symm
theorem u32_shl (x : UInt32) (k : Nat) (hk : k < 32) : IntKind.u32.wrap ((x.toNat : Int) * 2 ^ k) = ((x <<< UInt32.ofNat k).toNat : Int) := by
  rw [UInt32.toNat_shiftLeft, u32_k hk, Nat.shiftLeft_eq, IntKind.wrap_u32, pow2_cast]
  generalize 2 ^ k = q
  rw [← Int.natCast_mul]
  omega
theorem u8_u32 (x : UInt8) : IntKind.u32.wrap (x.toNat : Int) = (x.toUInt32.toNat : Int) := by
  rw [IntKind.wrap_u32, UInt8.toNat_toUInt32]
  have := x.toNat_lt
  omega
def turnW (x : UInt32) (k : Nat) : UInt32 := (x >>> UInt32.ofNat k) ||| (x <<< UInt32.ofNat (32 - k))
def sg0 (x : UInt32) : UInt32 := turnW x 7 ^^^ turnW x 18 ^^^ (x >>> UInt32.ofNat 3)
def sg1 (x : UInt32) : UInt32 := turnW x 17 ^^^ turnW x 19 ^^^ (x >>> UInt32.ofNat 10)
def bs0 (x : UInt32) : UInt32 := turnW x 2 ^^^ turnW x 13 ^^^ turnW x 22
def bs1 (x : UInt32) : UInt32 := turnW x 6 ^^^ turnW x 11 ^^^ turnW x 25
def chW (e f g : UInt32) : UInt32 := (e &&& f) ^^^ (~~~e &&& g)
def majW (a b c : UInt32) : UInt32 := (a &&& b) ^^^ (a &&& c) ^^^ (b &&& c)
def byteW (t : ByteArray) (i : Nat) : UInt32 := (t.data.toList.getD i 0).toUInt32
def be32 (t : ByteArray) (i : Nat) : UInt32 := (byteW t i <<< UInt32.ofNat 24) ||| (byteW t (i + 1) <<< UInt32.ofNat 16) ||| (byteW t (i + 2) <<< UInt32.ofNat 8) ||| byteW t (i + 3)
def schedN (w : List UInt32) (t : ByteArray) (i : Nat) : UInt32 :=
  if i < 16 then be32 t (4 * i) else w.getD (i - 16) 0 + sg0 (w.getD (i - 15) 0) + w.getD (i - 7) 0 + sg1 (w.getD (i - 2) 0)
def sched (t : ByteArray) : Nat → List UInt32
  | 0 => []
  | i + 1 => sched t i ++ [schedN (sched t i) t i]
theorem sched_len (t : ByteArray) : ∀ n, (sched t n).length = n
  | 0 => rfl
  | n + 1 => by simp [sched, sched_len t n]
def keysL : List UInt32 := [
    0x428a2f98, 0x71374491, 0xb5c0fbcf, 0xe9b5dba5, 0x3956c25b, 0x59f111f1, 0x923f82a4, 0xab1c5ed5,
    0xd807aa98, 0x12835b01, 0x243185be, 0x550c7dc3, 0x72be5d74, 0x80deb1fe, 0x9bdc06a7, 0xc19bf174,
    0xe49b69c1, 0xefbe4786, 0x0fc19dc6, 0x240ca1cc, 0x2de92c6f, 0x4a7484aa, 0x5cb0a9dc, 0x76f988da,
    0x983e5152, 0xa831c66d, 0xb00327c8, 0xbf597fc7, 0xc6e00bf3, 0xd5a79147, 0x06ca6351, 0x14292967,
    0x27b70a85, 0x2e1b2138, 0x4d2c6dfc, 0x53380d13, 0x650a7354, 0x766a0abb, 0x81c2c92e, 0x92722c85,
    0xa2bfe8a1, 0xa81a664b, 0xc24b8b70, 0xc76c51a3, 0xd192e819, 0xd6990624, 0xf40e3585, 0x106aa070,
    0x19a4c116, 0x1e376c08, 0x2748774c, 0x34b0bcb5, 0x391c0cb3, 0x4ed8aa4a, 0x5b9cca4f, 0x682e6ff3,
    0x748f82ee, 0x78a5636f, 0x84c87814, 0x8cc70208, 0x90befffa, 0xa4506ceb, 0xbef9a3f7, 0xc67178f2]
def startL : List UInt32 := [0x6a09e667, 0xbb67ae85, 0x3c6ef372, 0xa54ff53a, 0x510e527f, 0x9b05688c, 0x1f83d9ab, 0x5be0cd19]
structure S8 where
  a : UInt32
  b : UInt32
  c : UInt32
  d : UInt32
  e : UInt32
  f : UInt32
  g : UInt32
  h : UInt32
def S8.of (l : List UInt32) : S8 := ⟨l.getD 0 0, l.getD 1 0, l.getD 2 0, l.getD 3 0, l.getD 4 0, l.getD 5 0, l.getD 6 0, l.getD 7 0⟩
def S8.list (s : S8) : List UInt32 := [s.a, s.b, s.c, s.d, s.e, s.f, s.g, s.h]
def rt1 (s : S8) (k w : UInt32) : UInt32 := s.h + bs1 s.e + chW s.e s.f s.g + k + w
def rt2 (s : S8) : UInt32 := bs0 s.a + majW s.a s.b s.c
def rnd (s : S8) (k w : UInt32) : S8 := ⟨rt1 s k w + rt2 s, s.a, s.b, s.c, s.d + rt1 s k w, s.e, s.f, s.g⟩
def rounds (W : List UInt32) (s : S8) : Nat → S8
  | 0 => s
  | i + 1 => rnd (rounds W s i) (keysL.getD i 0) (W.getD i 0)
def addW (st v : List UInt32) : List UInt32 := List.zipWith (· + ·) st v
def block (st : List UInt32) (t : ByteArray) : List UInt32 := addW st (rounds (sched t 64) (S8.of st) 64).list
theorem block_len {st : List UInt32} (h : st.length = 8) (t : ByteArray) : (block st t).length = 8 := by
  simp [block, addW, S8.list, h]
def blocksN (st : List UInt32) (t : ByteArray) : Nat → List UInt32
  | 0 => st
  | n + 1 => block (blocksN st t n) (t.extract (64 * n) (64 * n + 64))
theorem blocksN_len {st : List UInt32} (h : st.length = 8) (t : ByteArray) : ∀ n, (blocksN st t n).length = 8
  | 0 => h
  | n + 1 => block_len (blocksN_len h t n) _
structure DHash where
  state : List UInt32
  rest : ByteArray
  size : Int
def DHash.enc (h : DHash) : List AV := [.row true 1 (h.state.map fun x => eInt (x.toNat : Int)), .lit (.string h.rest), .lit (.int .i64 h.size)]
def moreF (h : DHash) (t : ByteArray) : DHash :=
  ⟨blocksN h.state (h.rest ++ t) ((h.rest ++ t).size / 64), (h.rest ++ t).extract (64 * ((h.rest ++ t).size / 64)) (h.rest ++ t).size, h.size + (t.size : Int)⟩
def zerosL (n : Nat) : List UInt8 := List.replicate n 0
def be64 (n : Nat) : List UInt8 := [56, 48, 40, 32, 24, 16, 8, 0].map fun k => UInt8.ofNat (n >>> k)
def padL (r n : Nat) : List UInt8 := 128 :: zerosL ((119 - r) % 64) ++ be64 (8 * n)
def wordB (x : UInt32) : List UInt8 := [24, 16, 8, 0].map fun k => UInt8.ofNat (x.toNat >>> k)
def outL (l : List UInt32) : List UInt8 := (l.map wordB).flatten
def bytesOf (l : List UInt8) : ByteArray := ⟨l.toArray⟩
def endF (h : DHash) : ByteArray := bytesOf (outL (moreF h (bytesOf (padL h.rest.size h.size.toNat))).state)
def digF (t : ByteArray) : ByteArray := endF (moreF ⟨startL, .empty, 0⟩ t)
theorem flat_len (l : List (List UInt8)) (k : Nat) (h : ∀ x ∈ l, x.length = k) : l.flatten.length = k * l.length := by
  induction l with
  | nil => rfl
  | cons x l ih => simp [ih fun y hy => h y (by simp [hy]), h x (by simp), Nat.mul_add, Nat.add_comm]
theorem digF_size (t : ByteArray) : (digF t).size = 32 := by
  have h1 : (moreF ⟨startL, .empty, 0⟩ t).state.length = 8 := blocksN_len rfl _ _
  have h2 : ∀ b, (moreF (moreF ⟨startL, .empty, 0⟩ t) b).state.length = 8 := fun b => blocksN_len h1 _ _
  show (outL _).length = 32
  unfold outL
  rw [flat_len _ 4 (fun x hx => by obtain ⟨w, _, rfl⟩ := List.mem_map.1 hx; rfl), List.length_map, h2]
end Go.Proofs.YthdejoipdgahiaaGreatDoor
