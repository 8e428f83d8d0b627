/- The abstract machine: words for the walks. -/
import Derived.Test.YtlijeincckbdaaaA16
namespace Go.Proofs.Ytlijeincckbdaaa
open Go.RowKit
set_option linter.unusedSimpArgs false
set_option linter.unusedVariables false

theorem close_int {m : Nat → Option Blk} {k : IntKind} {a b : Int} (h : b = a) : closeAV m (.lit (.int k a)) (.lit (.int k b)) := by subst h; exact rfl
theorem close_bool {m : Nat → Option Blk} {a b : Bool} (h : b = a) : closeAV m (.lit (.bool a)) (.lit (.bool b)) := by subst h; exact rfl
theorem close_str {m : Nat → Option Blk} {a b : ByteArray} (h : b = a) : closeAV m (.lit (.string a)) (.lit (.string b)) := by subst h; exact rfl
theorem close_row {m : Nat → Option Blk} {s off len sz : Nat} {es es' : List (List AV)} (hm : m s = some (.row true sz es)) (h0 : off = 0) (h1 : len = es.length) (h : es' = es) : closeAV m (.loc s off len) (.row true sz es') := by
  subst h
  simp only [closeAV, hm]
  exact ⟨h0, h1, _, rfl, nilR_refl _⟩
theorem close_rowN {m : Nat → Option Blk} {s off len sz : Nat} {es es' : List (List AV)} (hm : m s = some (.row true sz es)) (h0 : off = 0) (h1 : len = es.length) (h : nilR es es') : closeAV m (.loc s off len) (.row true sz es') := by
  simp only [closeAV, hm]
  exact ⟨h0, h1, _, rfl, h⟩
theorem close_nil {m : Nat → Option Blk} {sz : Nat} {es : List (List AV)} (h : es = []) : closeAV m (.lit (.slice none 0 0)) (.row true sz es) := by subst h; exact .inr ⟨sz, rfl⟩
theorem closeL_nil {m : Nat → Option Blk} : closeL m [] [] := trivial
theorem closeL_cons {m : Nat → Option Blk} {x y : AV} {xs ys : List AV} (h : closeAV m x y) (h' : closeL m xs ys) : closeL m (x :: xs) (y :: ys) := ⟨h, h'⟩

theorem lends_nil {m : Nat → Option Blk} : LendTs m [] [] := trivial
theorem lends_cons {m : Nat → Option Blk} {t u : T} {ts us : List T} (h : LendT m t u) (h' : LendTs m ts us) : LendTs m (t :: ts) (u :: us) := ⟨h, h'⟩
theorem lend_one {m : Nat → Option Blk} {x y : AV} (h : LendA m 4 x y) : LendT m (.one x) (.one y) := by unfold LendT; cases y <;> exact h
theorem lend_agg {m : Nat → Option Blk} {xs ys : List AV} (h : all2 (LendA m 4) xs ys) : LendT m (.agg xs) (.agg ys) := h
theorem all2_nil {p : AV → AV → Prop} : all2 p [] [] := trivial
theorem all2_cons {p : AV → AV → Prop} {x y : AV} {xs ys : List AV} (h : p x y) (h' : all2 p xs ys) : all2 p (x :: xs) (y :: ys) := ⟨h, h'⟩
theorem la_int {m : Nat → Option Blk} {n : Nat} {k : IntKind} {a b : Int} (h : b = a) : LendA m n (.lit (.int k a)) (.lit (.int k b)) := by subst h; cases n <;> exact Or.inl rfl
theorem la_bool {m : Nat → Option Blk} {n : Nat} {a b : Bool} (h : b = a) : LendA m n (.lit (.bool a)) (.lit (.bool b)) := by subst h; cases n <;> exact Or.inl rfl
theorem la_str {m : Nat → Option Blk} {n : Nat} {a b : ByteArray} (h : b = a) : LendA m n (.lit (.string a)) (.lit (.string b)) := by subst h; cases n <;> exact Or.inl rfl
theorem la_par {m : Nat → Option Blk} {n : Nat} {v : Value} {y : AV} (s : Nat) (h : m s = some (.par v y)) : LendA m n (.lit v) y := by
  cases v with
  | slice A a b => cases A <;> cases a <;> cases b <;> cases n <;> cases y <;> first | exact Or.inr (Or.inr ⟨s, h⟩) | exact Or.inr ⟨s, h⟩ | trivial
  | _ => cases n <;> cases y <;> first | exact Or.inr ⟨s, h⟩ | trivial
theorem la_row {m : Nat → Option Blk} {n : Nat} {o o' : Bool} {sz sz' : Nat} {es es' : List (List AV)} (h0 : sz' = sz) (h : es' = es) : LendA m n (.row o sz es) (.row o' sz' es') := by cases n <;> exact ⟨h0, h⟩
theorem la_nil {m : Nat → Option Blk} {n : Nat} {o : Bool} {sz : Nat} {es : List (List AV)} (h : es = []) : LendA m n (.lit (.slice none 0 0)) (.row o sz es) := by subst h; cases n <;> exact .inr (.inl ⟨o, sz, rfl⟩)
theorem la_loc {m : Nat → Option Blk} {n s off len sz sz' : Nat} {o : Bool} {es es' : List (List AV)} (hm : m s = some (.row true sz es)) (h0 : sz' = sz) (h1 : off = 0) (h2 : len = es.length) (h : es' = es) : LendA m n (.loc s off len) (.row o sz' es') := by
  subst h h0 h1 h2
  cases n <;> simp [LendA, hm]

theorem wrap_id {k : IntKind} {a : Int} (h1 : k.min ≤ a) (h2 : a ≤ k.max) : a = k.wrap a := by
  cases k <;> simp [IntKind.min, IntKind.max, IntKind.signed, IntKind.bits] at h1 h2 <;> simp [IntKind.wrap, IntKind.signed, IntKind.bits] <;> omega
theorem wrap64_id {a : Int} (h1 : -9223372036854775808 ≤ a) (h2 : a ≤ 9223372036854775807) : a = IntKind.i64.wrap a := wrap_id (by simpa [IntKind.min, IntKind.signed, IntKind.bits] using h1) (by simpa [IntKind.max, IntKind.signed, IntKind.bits] using h2)

/-- It speaks of none but these places. -/
def AV.only (l : List Nat) : AV → Bool
  | .ptr s _ => l.contains s
  | .eptr s _ _ => l.contains s
  | .loc s _ _ => l.contains s
  | .fn _ caps => caps.all fun x => match x with
    | .ptr s _ => l.contains s
    | .eptr s _ _ => l.contains s
    | .loc s _ _ => l.contains s
    | .fn _ _ => false
    | _ => true
  | _ => true
def T.only (l : List Nat) : T → Bool
  | .one x => x.only l
  | .agg xs => xs.all (AV.only l)
  | .tup ts => ts.all fun t => t.2.all (AV.only l)
  | .dead => true
def Blk.only (l : List Nat) : Blk → Bool
  | .var xs => xs.all (AV.only l)
  | .row p _ es => p || es.all fun e => e.all (AV.only l)
  | .par _ _ => true
  | .pin s _ => l.contains s

section
variable {w0 w : World} {L : Nat → Prop} {n : Nat} {σ : AS} {a : Act} {c : Ctx} {F : Nat → Nat → Prop}

/-- The context cut down to some places. -/
def Ctx.cut (c : Ctx) (l : List Nat) : Ctx := ⟨fun s => if l.contains s then c.at_ s else none, c.I⟩
theorem R.only {l : List Nat} {x : AV} {v : Value} (h : R c w x v) (ho : x.only l = true) : R (c.cut l) w x v := by
  have key : ∀ {x : AV} {v : Value}, R c w x v → (match x with
    | .ptr s _ => l.contains s
    | .eptr s _ _ => l.contains s
    | .loc s _ _ => l.contains s
    | .fn _ _ => false
    | _ => true) = true → R (c.cut l) w x v := by
    intro x v h ho
    cases x with
    | dead => exact .dead v
    | lit => cases h; exact .lit _
    | ptr s j => cases h with | ptr h => exact .ptr (show (c.cut l).at_ s = _ by simp only [Ctx.cut]; rw [if_pos ho]; exact h)
    | eptr s i j => cases h with | @eptr _ _ _ b cap sz h => exact .eptr (b := b) (cap := cap) (sz := sz) (show (c.cut l).at_ s = _ by simp only [Ctx.cut]; rw [if_pos ho]; exact h)
    | loc s o len => cases h with
      | loc h a b => exact .loc (show (c.cut l).at_ s = _ by simp only [Ctx.cut]; rw [if_pos ho]; exact h) a b
      | locnil h => exact .locnil (show (c.cut l).at_ s = _ by simp only [Ctx.cut]; rw [if_pos ho]; exact h)
    | row => exact R.free (c := c) (c' := c.cut l) (fun _ h => h) (fun _ _ => rfl) h rfl
    | bptr => exact R.free (c := c) (c' := c.cut l) (fun _ h => h) (fun _ _ => rfl) h rfl
    | nn => exact R.free (c := c) (c' := c.cut l) (fun _ h => h) (fun _ _ => rfl) h rfl
    | fn => cases ho
  cases x with
  | fn f caps =>
    cases h with | fn a1 a0 a2 =>
    exact .fn a1 a0 fun k x v hx hv => key (a2 k x v hx hv) (List.all_eq_true.1 ho _ (List.mem_of_getElem? hx))
  | dead => exact key h rfl
  | lit => exact key h rfl
  | ptr => exact key h ho
  | eptr => exact key h ho
  | loc => exact key h ho
  | row => exact key h rfl
  | bptr => exact key h rfl
  | nn => exact key h rfl
theorem RL.only {l : List Nat} : ∀ {xs : List AV} {vs : List Value}, RL c w xs vs → xs.all (AV.only l) = true → RL (c.cut l) w xs vs
  | [], [], _, _ => trivial
  | _ :: _, _ :: _, h, ho => by
    simp only [List.all_cons, Bool.and_eq_true] at ho
    exact ⟨⟨h.1.1.only ho.1, h.1.2⟩, RL.only h.2 ho.2⟩
theorem RTs.only {l : List Nat} : ∀ {ts : List (Bool × List AV)} {vs : List Value}, RTs c w ts vs → (ts.all fun t => t.2.all (AV.only l)) = true → RTs (c.cut l) w ts vs
  | [], [], _, _ => trivial
  | (false, [x]) :: _, _ :: _, h, ho => by
    simp only [List.all_cons, Bool.and_eq_true, List.all_nil, Bool.and_true] at ho
    exact ⟨⟨h.1.1.only ho.1, h.1.2⟩, RTs.only h.2 ho.2⟩
  | (true, _) :: _, .agg _ :: _, h, ho => by
    simp only [List.all_cons, Bool.and_eq_true] at ho
    exact ⟨RL.only h.1 ho.1, RTs.only h.2 ho.2⟩
theorem RT.only {l : List Nat} {t : T} {v : Value} (h : RT c w t v) (ho : t.only l = true) : RT (c.cut l) w t v := by
  cases t with
  | dead => trivial
  | one x => exact ⟨h.1.only ho, h.2⟩
  | agg xs => cases v <;> first | exact h.elim | exact RL.only h ho
  | tup ts => cases v <;> first | exact h.elim | exact RTs.only h ho

/-- Only some temporaries and places are kept. -/
theorem H.keep (h : H w0 L n σ a w c F) {tl : List (Nat × T)} {ml : List (Nat × Blk)} (ht : ∀ p ∈ tl, RT c w p.2 (a.tmps.getD p.1 undef)) (hm : ∀ p ∈ ml, σ.mem p.1 = some p.2)
    (ho : (tl.all fun p => p.2.only (ml.map (·.1))) = true) (ho' : (ml.all fun p => p.2.only (ml.map (·.1))) = true) :
    H w0 L n (AS.of tl ml) a w (c.cut (ml.map (·.1))) (fun s b => (ml.map (·.1)).contains s = true ∧ F s b) := by
  have hlk : ∀ (ml : List (Nat × Blk)) (s : Nat) (k : Blk), lkM ml s = some k → (s, k) ∈ ml := by
    intro ml
    induction ml with
    | nil => intro s k h; simp [lkM] at h
    | cons p ml ih =>
      intro s k h
      obtain ⟨s', k'⟩ := p
      simp only [lkM] at h
      split at h
      · rename_i e; subst e; cases h; simp
      · exact List.mem_cons_of_mem _ (ih s k h)
  have hlkn : ∀ (ml : List (Nat × Blk)) (s : Nat), lkM ml s = none → (ml.map (·.1)).contains s = false := by
    intro ml
    induction ml with
    | nil => intro s h; rfl
    | cons p ml ih =>
      intro s h
      obtain ⟨s', k'⟩ := p
      simp only [lkM] at h
      split at h
      · cases h
      · rename_i e
        simp only [List.map_cons, List.contains_cons, Bool.or_eq_false_iff]
        exact ⟨by simpa using e, ih s h⟩
  have hlt : ∀ (tl : List (Nat × T)) (t : Nat), lkT tl t = .dead ∨ ∃ p ∈ tl, p.1 = t ∧ lkT tl t = p.2 := by
    intro tl
    induction tl with
    | nil => intro t; exact .inl rfl
    | cons p tl ih =>
      intro t
      obtain ⟨k, v⟩ := p
      simp only [lkT]
      split
      · rename_i e; subst e; exact .inr ⟨(t, v), by simp, rfl, rfl⟩
      · rcases ih t with h1 | ⟨p, h1, h2, h3⟩
        · exact .inl h1
        · exact .inr ⟨p, by simp [h1], h2, h3⟩
  have hin : ∀ {s : Nat} {k : Blk}, (s, k) ∈ ml → (ml.map (·.1)).contains s = true := fun {s k} hs => by
    rw [List.contains_iff_mem]; exact List.mem_map.2 ⟨(s, k), hs, rfl⟩
  refine ⟨h.keeps, h.size, h.defers, fun t => ?_, fun s k hk => ?_, fun s hs => ?_, fun s s' b h1 h2 => h.disj _ _ _ h1.2 h2.2, fun s b hb => h.new s b hb.2, h.imm, fun s b hb => ?_, fun s v x hk => h.par s v x (hm _ (hlk ml s _ hk))⟩
  · rcases hlt tl t with h1 | ⟨p, h1, rfl, h3⟩
    · show RT _ _ (lkT tl t) _; rw [h1]; trivial
    · show RT _ _ (lkT tl p.1) _
      rw [h3]
      exact (ht p h1).only (List.all_eq_true.1 ho p h1)
  · have hmem := hlk ml s k hk
    have hc := hin hmem
    have hb := h.mem s k (hm _ hmem)
    have hon : k.only (ml.map (·.1)) = true := List.all_eq_true.1 ho' _ hmem
    rw [show (fun b => (ml.map (·.1)).contains s = true ∧ F s b) = F s from funext fun b => propext (and_iff_right hc)]
    have hat : (c.cut (ml.map (·.1))).at_ s = c.at_ s := by simp only [Ctx.cut]; rw [if_pos hc]
    cases k with
    | var xs =>
      obtain ⟨b, C, e, fz, a1, a2, a3, a4, a5⟩ := hb
      exact ⟨b, C, e, fz, hat.trans a1, a2, a3, a4.only hon, a5⟩
    | row p sz es =>
      rcases hb with ⟨a1, a2, a3⟩ | ⟨b, cap, a1, C, e, fz, G, b1, b2, b3, b4, b5, b6, b7, b8, b9, b10, b11, b12⟩
      · exact .inl ⟨hat.trans a1, a2, a3⟩
      · refine .inr ⟨b, cap, hat.trans a1, C, e, fz, G, b1, b2, b3, b4, b5, b6, b7, fun i j x v hx hv => ?_, b9, b10, b11, b12⟩
        rcases b8 i j x v hx hv with h2 | ⟨h2, h3, h4, h5⟩
        · exact .inl (RO.ctx (c := c) (c' := c.cut (ml.map (·.1))) (fun _ h => h) h2)
        · refine .inr ⟨h2, h3, h4.only ?_, h5⟩
          subst h2
          simp only [Blk.only, Bool.false_or, List.all_eq_true] at hon
          unfold elt at hx
          cases he : es[i]? with
          | none => simp [he] at hx
          | some e => simp [he] at hx; exact hon e (List.mem_of_getElem? he) x (List.mem_of_getElem? hx)
    | par v x => exact ⟨hat.trans hb.1, hb.2⟩
    | pin s2 i => exact ⟨hat.trans hb.1, hb.2.1, by
        have hon' : (ml.map (·.1)).contains s2 = true := hon
        simp only [Ctx.cut]; rw [if_pos hon']; exact hb.2.2⟩
  · have hc := hlkn ml s hs
    exact ⟨by simp only [Ctx.cut]; rw [if_neg (by rw [hc]; simp)], fun b hb => by rw [hc] at hb; cases hb.1⟩
  · have := h.inn s b hb.2
    have hat : ∀ b, (c.cut (ml.map (·.1))).top s b ↔ c.top s b := fun b => by
      simp only [Ctx.top, Ctx.cut]
      rw [if_pos hb.1]
    rw [hat]; exact this

theorem weak_of {tl : List (Nat × T)} {ml : List (Nat × Blk)} (ht : ∀ p ∈ tl, σ.tm p.1 = p.2) (hm : ∀ p ∈ ml, σ.mem p.1 = some p.2)
    (ho : (tl.all fun p => p.2.only (ml.map (·.1))) = true) (ho' : (ml.all fun p => p.2.only (ml.map (·.1))) = true) : Weak σ (AS.of tl ml) := by
  rintro w0 L n a w ⟨c, F, h⟩
  exact ⟨_, _, h.keep (fun p hp => by rw [← ht p hp]; exact h.tm p.1) hm ho ho'⟩
end
end Go.Proofs.Ytlijeincckbdaaa
