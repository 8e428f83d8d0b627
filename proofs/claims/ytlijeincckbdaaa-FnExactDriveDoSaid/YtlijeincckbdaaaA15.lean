/- The abstract machine: a region that draws its order. -/
import Derived.Test.YtlijeincckbdaaaA14
namespace Go.Proofs.Ytlijeincckbdaaa
open Go.RowKit
set_option linter.unusedSimpArgs false
set_option linter.unusedVariables false

/-- What must have come ahead of an operation, as a set of bits. -/
def maskE (acc : Array Nat) : List Edge → Nat
  | [] => 0
  | e :: l => if Region.binds .any e then 2 ^ e.on ||| acc.getD e.on 0 ||| maskE acc l else maskE acc l
def masks : List Oper → Array Nat → Array Nat
  | [], acc => acc
  | o :: l, acc => masks l (acc.push (maskE acc o.after.toList))
/-- Two operations may change places. -/
def freeP (E : Tab) (ops : Array Oper) (x y : Oper) : Bool := !isEff E x.op && !isEff E y.op && x.apart ops y
/-- A region whose order may be drawn. -/
def regOk (E : Tab) (ops : Array Oper) : Bool :=
  let b := masks ops.toList #[]
  (List.range ops.size).all fun i => match ops[i]? with
    | none => false
    | some oi => (oi.after.toList.all fun e => !Region.binds .any e || e.on < i) &&
      (List.range i).all fun k => (b.getD i 0).testBit k || match ops[k]? with
        | some ok => freeP E ops ok oi
        | none => false

inductive Anc (ops : Array Oper) : Nat → Nat → Prop
  | edge {i : Nat} {o : Oper} {e : Edge} : ops[i]? = some o → e ∈ o.after.toList → Region.binds .any e = true → Anc ops e.on i
  | step {k i : Nat} {o : Oper} {e : Edge} : ops[i]? = some o → e ∈ o.after.toList → Region.binds .any e = true → Anc ops k e.on → Anc ops k i

section
variable {P : Program} {w0 w : World} {L : Nat → Prop} {n : Nat} {σ : AS} {a : Act} {c : Ctx} {F : Nat → Nat → Prop} {ops : Array Oper} {Q : AS → Prop} {E : Tab}

theorem maskE_ok {acc : Array Nat} : ∀ {l : List Edge} {k : Nat}, (maskE acc l).testBit k = true → ∃ e ∈ l, Region.binds .any e = true ∧ (e.on = k ∨ (acc.getD e.on 0).testBit k = true)
  | [], k, h => by simp [maskE] at h
  | e :: l, k, h => by
    simp only [maskE] at h
    split at h
    · rename_i hb
      simp only [Nat.testBit_or, Bool.or_eq_true] at h
      rcases h with (h | h) | h
      · rw [Nat.testBit_two_pow] at h
        exact ⟨e, by simp, hb, .inl (by simpa using h)⟩
      · exact ⟨e, by simp, hb, .inr h⟩
      · obtain ⟨e', h1, h2⟩ := maskE_ok h
        exact ⟨e', by simp [h1], h2⟩
    · obtain ⟨e', h1, h2⟩ := maskE_ok h
      exact ⟨e', by simp [h1], h2⟩

theorem masks_ok : ∀ (l : List Oper) (acc : Array Nat), (∀ j, l[j]? = ops[acc.size + j]?) → (∀ i k, (acc.getD i 0).testBit k = true → Anc ops k i) → ∀ i k, ((masks l acc).getD i 0).testBit k = true → Anc ops k i
  | [], acc, _, h => h
  | o :: l, acc, hl, h => by
    have h0 : ops[acc.size]? = some o := by simpa using (hl 0).symm
    refine masks_ok l _ (fun j => by have := hl (j + 1); simpa [Nat.add_assoc, Nat.add_comm 1 j] using this) fun i k hk => ?_
    simp only [Array.getD_eq_getD_getElem?, Array.getElem?_push] at hk
    split at hk
    · rename_i e
      subst e
      simp only [Option.getD_some] at hk
      obtain ⟨e, h1, h2, h3⟩ := maskE_ok hk
      rcases h3 with h3 | h3
      · subst h3; exact .edge h0 h1 h2
      · exact .step h0 h1 h2 (h _ _ h3)
    · exact h i k (by rw [Array.getD_eq_getD_getElem?]; exact hk)

theorem regOk_spec (h : regOk E ops = true) : (∀ (i : Nat) (o : Oper) (e : Edge), ops[i]? = some o → e ∈ o.after.toList → Region.binds .any e = true → e.on < i) ∧
    ∀ (i k : Nat) (oi ok : Oper), ops[i]? = some oi → ops[k]? = some ok → k < i → Anc ops k i ∨ freeP E ops ok oi = true := by
  unfold regOk at h
  simp only [List.all_eq_true, List.mem_range] at h
  refine ⟨fun i o e ho he hb => ?_, fun i k oi ok hi hk hlt => ?_⟩
  · have := h i (Array.getElem?_eq_some_iff.1 ho).1
    simp only [ho, Bool.and_eq_true, List.all_eq_true] at this
    have := this.1 e he
    simp [hb] at this
    exact this
  · have := h i (Array.getElem?_eq_some_iff.1 hi).1
    simp only [hi, Bool.and_eq_true, List.all_eq_true, List.mem_range] at this
    have := this.2 k hlt
    simp only [hk, Bool.or_eq_true] at this
    refine this.imp (fun h1 => ?_) id
    exact masks_ok ops.toList #[] (fun j => by simp) (fun i k hk => by simp at hk) i k h1

/-- The listed operations' forerunners are listed. -/
def Shut (ops : Array Oper) (listed : Array Bool) : Prop := ∀ (i : Nat) (o : Oper) (e : Edge), listed.getD i true = true → ops[i]? = some o → e ∈ o.after.toList → Region.binds .any e = true → listed.getD e.on false = true

theorem Anc.listed {listed : Array Bool} (hl : listed.size = ops.size) (hs : Shut ops listed) {k i : Nat} (h : Anc ops k i) : (∀ (o : Oper) (e : Edge), ops[i]? = some o → e ∈ o.after.toList → Region.binds .any e = true → listed.getD e.on false = true) → listed.getD k false = true := by
  induction h with
  | edge h1 h2 h3 => exact fun hr => hr _ _ h1 h2 h3
  | @step k i o e h1 h2 h3 h4 ih =>
    intro hr
    have := hr _ _ h1 h2 h3
    refine ih fun o' e' ho' he' hb' => hs e.on o' e' ?_ ho' he' hb'
    rw [Array.getD_eq_getD_getElem?] at this ⊢
    cases hq : listed[e.on]? with
    | none => rfl
    | some b => rw [hq] at this; simpa using this

theorem opnd_mem {x : Operand} {t : Nat} {o : Oper} (h : x ∈ o.op.operands) (e : x = .tmp t) : t ∈ o.looksAt ops := by
  subst e
  exact List.mem_append_left _ (List.mem_filterMap.2 ⟨.tmp t, by simpa using h, rfl⟩)

theorem get_put {t : Nat} {x : Operand} {v : T} (h : x ≠ .tmp t) : (σ.put (some t) v).get x = σ.get x := by
  cases x with
  | tmp k => simp only [AS.put, AS.get]; rw [if_neg (fun e => h (by rw [e]))]
  | _ => rfl
theorem get_adds {l : News} {x : Operand} : (σ.adds l).get x = σ.get x := by
  cases x <;> first | rfl | (simp only [AS.get, adds_tm])

/-- An operation's operands read as they did behind another that is apart. -/
theorem get_app {x y : Oper} (hap : x.apart ops y = true) (d : Dec) : ∀ u ∈ y.op.operands, (app x d σ).get u = σ.get u := by
  intro u hu
  obtain ⟨h1, _, _⟩ := Oper.apart_spec hap
  have hne : ∀ t, x.dst = some t → u ≠ .tmp t := fun t ht e => h1 t ht (opnd_mem hu e)
  cases d with
  | none =>
    simp only [app]
    cases hd : x.dst with
    | none => rfl
    | some t => exact get_put (hne t hd)
  | some d =>
    obtain ⟨v, news⟩ := d
    simp only [app]
    cases hd : x.dst with
    | none => simp only [AS.put]; exact get_adds
    | some t => rw [get_put (hne t hd)]; exact get_adds
theorem get_app' {x y : Oper} (hap : x.apart ops y = true) (d : Dec) : ∀ u ∈ x.op.operands, (app y d σ).get u = σ.get u := by
  intro u hu
  obtain ⟨_, _, h3⟩ := Oper.apart_spec hap
  have hne : ∀ t, y.dst = some t → u ≠ .tmp t := fun t ht e => h3 t ht (opnd_mem hu e)
  cases d with
  | none =>
    simp only [app]
    cases hd : y.dst with
    | none => rfl
    | some t => exact get_put (hne t hd)
  | some d =>
    obtain ⟨v, news⟩ := d
    simp only [app]
    cases hd : y.dst with
    | none => simp only [AS.put]; exact get_adds
    | some t => rw [get_put (hne t hd)]; exact get_adds

theorem tm_app {x : Oper} {d : Dec} {t : Nat} (h : x.dst ≠ some t) : (app x d σ).tm t = σ.tm t := by
  cases d with
  | none =>
    simp only [app]
    cases hd : x.dst with
    | none => rfl
    | some k => simp only [AS.put]; rw [if_neg (fun e => h (by rw [hd, e]))]
  | some d =>
    obtain ⟨v, news⟩ := d
    simp only [app]
    cases hd : x.dst with
    | none => simp only [AS.put, adds_tm]
    | some k => simp only [AS.put, adds_tm]; rw [if_neg (fun e => h (by rw [hd, e]))]

theorem guard_looks {o : Oper} {j t : Nat} {want : Bool} (hg : o.guard = some (j, want)) (ht : gdst ops j = some t) : t ∈ o.looksAt ops := by
  unfold gdst at ht
  simp [Oper.looksAt, hg, ht]

theorem wants_app {x y : Oper} {d : Dec} (h : ∀ t, x.dst = some t → t ∉ y.looksAt ops) : (wants ops (app x d σ) y ↔ wants ops σ y) ∧ (skips ops (app x d σ) y ↔ skips ops σ y) := by
  unfold wants skips
  cases hg : y.guard with
  | none => exact ⟨Iff.rfl, Iff.rfl⟩
  | some jw =>
    obtain ⟨j, want⟩ := jw
    have key : ∀ t, gdst ops j = some t → (app x d σ).tm t = σ.tm t := fun t ht => tm_app fun e => h t e (guard_looks hg ht)
    constructor
    · constructor
      · rintro ⟨t, h1, h2⟩; exact ⟨t, h1, by rw [← key t h1]; exact h2⟩
      · rintro ⟨t, h1, h2⟩; exact ⟨t, h1, by rw [key t h1]; exact h2⟩
    · constructor
      · rintro ⟨t, h1, h2⟩; exact ⟨t, h1, by rw [← key t h1]; exact h2⟩
      · rintro ⟨t, h1, h2⟩; exact ⟨t, h1, by rw [key t h1]; exact h2⟩

theorem opn'_congr {site : Nat} {op : Op} {g g' : Operand → T} {m : Nat → Option Blk} {K : T → News → Prop} (hg : ∀ x ∈ op.operands, g' x = g x) (h : opn P E site op g m K) : opn P E site op g' m K := by
  unfold opn at h ⊢
  cases op <;> simp only [Op.operands] at hg h ⊢ <;> try exact h
  case move x => rw [hg x (by simp)]; exact h
  case assign x => rw [hg x (by simp)]; exact h
  case pick a b c => rw [hg a (by simp), hg b (by simp), hg c (by simp)]; exact h
  case box t x => rw [hg x (by simp)]; exact h
  case build t ps =>
    have e : (ps.toList.map fun p => (p.1, g' p.2)) = ps.toList.map fun p => (p.1, g p.2) := List.map_congr_left fun p hp => by rw [hg p.2 (by simpa using ⟨p.1, by simpa using hp⟩)]
    rw [e]; exact h
  case buildSlice t len ps =>
    have e : (ps.toList.map fun p => (p.1, g' p.2)) = ps.toList.map fun p => (p.1, g p.2) := List.map_congr_left fun p hp => by rw [hg p.2 (by simpa using ⟨p.1, by simpa using hp⟩)]
    rw [e]; exact h
  case load t x => rw [hg x (by simp)]; exact h
  case nilCheck x => rw [hg x (by simp)]; exact h
  case binOp o t x y t' => rw [hg x (by simp), hg y (by simp)]; exact h
  case unOp o t x => rw [hg x (by simp)]; exact h
  case convert s d x => rw [hg x (by simp)]; exact h
  case makeFunc fn first caps =>
    have e : caps.toList.map g' = caps.toList.map g := List.map_congr_left fun p hp => hg p (by simp at hp ⊢; exact .inr hp)
    rw [e]; exact h
  case makeSlice t l c => rw [hg l (by simp), hg c (by simp)]; exact h
  case slice t x lo hi mx =>
    cases mx with
    | some _ => exact h
    | none =>
      have e1 : lo.map g' = lo.map g := by cases lo with | none => rfl | some u => simp [hg u (by simp)]
      have e2 : hi.map g' = hi.map g := by cases hi with | none => rfl | some u => simp [hg u (by simp)]
      simp only at h ⊢
      rw [hg x (by simp), e1, e2]; exact h
  case fieldAddr s x f => rw [hg x (by simp)]; exact h
  case field s x f => rw [hg x (by simp)]; exact h
  case indexAddr t x i => rw [hg x (by simp), hg i (by simp)]; exact h
  case index t x i => rw [hg x (by simp), hg i (by simp)]; exact h
  case extract x i => rw [hg x (by simp)]; exact h
  case call cl =>
    simp only [Call.operands] at hg
    have hargs : ∀ x ∈ cl.args.toList, g' x = g x := fun x hx => hg x (by simp at hx ⊢; exact .inr hx)
    split at h
    · split at h
      · rename_i x t hx ht
        rw [hargs x (by simp [hx])]; exact h
      · exact h
    · split at h
      · rename_i x y hx
        rw [hargs x (by simp [hx]), hargs y (by simp [hx])]; exact h
      · exact h
    · split at h
      · rename_i x y hx
        rw [hargs x (by simp [hx]), hargs y (by simp [hx])]; exact h
      · exact h
    · rename_i f hc
      have e : cl.args.toList.map g' = cl.args.toList.map g := List.map_congr_left hargs
      rw [hg f (by simp [hc]), e]; exact h
    · exact h

theorem adds_mem_none {l : News} {s : Nat} (h : (σ.adds l).mem s = none) : σ.mem s = none ∧ ∀ x ∈ l, x.1 ≠ s := by
  induction l generalizing σ with
  | nil => exact ⟨h, by simp⟩
  | cons x l ih =>
    obtain ⟨s', k⟩ := x
    obtain ⟨h1, h2⟩ := ih h
    simp only [AS.add] at h1
    split at h1
    · cases h1
    · rename_i hne
      refine ⟨h1, fun y hy => ?_⟩
      cases hy with
      | head => exact fun e => hne e.symm
      | tail _ hy => exact h2 y hy

theorem adds_comm {l1 l2 : News} (h : ∀ x ∈ l1, ∀ y ∈ l2, x.1 ≠ y.1) : (σ.adds l1).adds l2 = (σ.adds l2).adds l1 := by
  have e : ∀ (l : News) (τ : AS), τ.adds l = ⟨τ.tm, (τ.adds l).mem⟩ := fun l τ => by rw [← adds_tm l τ]
  have key : ∀ s, ((σ.adds l1).adds l2).mem s = ((σ.adds l2).adds l1).mem s := by
    intro s
    have frame : ∀ (l : News) (τ τ' : AS), τ.mem s = τ'.mem s → (τ.adds l).mem s = (τ'.adds l).mem s := by
      intro l
      induction l with
      | nil => intro τ τ' h; exact h
      | cons x l ih =>
        intro τ τ' h
        obtain ⟨s', k⟩ := x
        refine ih _ _ ?_
        simp only [AS.add]
        split
        · rfl
        · exact h
    by_cases h2 : ∃ y ∈ l2, y.1 = s
    · obtain ⟨y, hy, rfl⟩ := h2
      rw [adds_mem_ne (l := l1) (σ := σ.adds l2) (fun x hx => h x hx y hy)]
      exact frame l2 _ _ (adds_mem_ne (fun x hx => h x hx y hy))
    · have h2' : ∀ y ∈ l2, y.1 ≠ s := fun y hy e => h2 ⟨y, hy, e⟩
      rw [adds_mem_ne (l := l2) h2']
      exact frame l1 _ _ (adds_mem_ne h2').symm
  rw [e l2, e l1 (σ.adds l2), adds_tm, adds_tm]
  congr 1
  funext s; exact key s

theorem put_put {d e : Option Nat} (h : ∀ k, d = some k → e ≠ some k) (u v : T) : (σ.put d u).put e v = (σ.put e v).put d u := by
  cases d with
  | none => rfl
  | some d =>
    cases e with
    | none => rfl
    | some e =>
      have hne : d ≠ e := fun q => h d rfl (by rw [q])
      simp only [AS.put]
      congr 1
      funext k
      by_cases h1 : k = e
      · have : ¬ e = d := fun q => hne q.symm
        simp [h1, this]
      · simp [h1]
theorem put_adds {d : Option Nat} {v : T} {l : News} : (σ.put d v).adds l = (σ.adds l).put d v := by
  induction l generalizing σ with
  | nil => rfl
  | cons x l ih =>
    obtain ⟨s, k⟩ := x
    simp only [AS.adds]
    rw [← ih]
    congr 1
    cases d <;> rfl

theorem app_mem_none {x : Oper} {d : Dec} {s : Nat} (h : (app x d σ).mem s = none) : σ.mem s = none := by
  cases d with
  | none => simpa only [app, put_mem] using h
  | some d => obtain ⟨v, news⟩ := d; simp only [app, put_mem] at h; exact (adds_mem_none h).1

/-- Two quiet operations that are apart may change places. -/
theorem Tr.swap {k i : Nat} {l : List Nat} {m : Nat → Option Blk} {ok oi : Oper} (hk : ops[k]? = some ok) (hi : ops[i]? = some oi) (hf : freeP E ops ok oi = true) (h : Tr P E ops Q (k :: i :: l) σ m) : Tr P E ops Q (i :: k :: l) σ m := by
  simp only [freeP, Bool.and_eq_true, Bool.not_eq_true'] at hf
  obtain ⟨⟨e1, e2⟩, hap⟩ := hf
  obtain ⟨p1, p2, p3⟩ := Oper.apart_spec hap
  simp only [Tr] at h ⊢
  obtain ⟨o1, h1, h⟩ := h
  rw [hk] at h1; cases h1
  rw [if_neg (by simp [e1])] at h
  obtain ⟨dk, hdk, o2, h2, h⟩ := h
  rw [hi] at h2; cases h2
  rw [if_neg (by simp [e2])] at h
  obtain ⟨di, hdi, h⟩ := h
  refine ⟨oi, hi, ?_⟩
  rw [if_neg (by simp [e2])]
  have hdi' : VOk P E ops oi di σ m := by
    cases di with
    | none => exact ((wants_app p1).2).1 hdi
    | some d =>
      obtain ⟨v, news⟩ := d
      obtain ⟨a1, a2, a3, a4⟩ := hdi
      exact ⟨((wants_app p1).1).1 a1, opn'_congr (fun x hx => (get_app hap dk x hx).symm) a2, fun x hx => app_mem_none (a3 x hx), a4⟩
  refine ⟨di, hdi', ok, hk, ?_⟩
  rw [if_neg (by simp [e1])]
  refine ⟨dk, ?_, ?_⟩
  · cases dk with
    | none => exact ((wants_app p3).2).2 hdk
    | some d =>
      obtain ⟨v, news⟩ := d
      obtain ⟨a1, a2, a3, a4⟩ := hdk
      refine ⟨((wants_app p3).1).2 a1, opn'_congr (fun x hx => get_app' hap di x hx) a2, fun x hx => ?_, a4⟩
      cases di with
      | none => simpa only [app, put_mem] using a3 x hx
      | some d' =>
        obtain ⟨v', news'⟩ := d'
        simp only [app, put_mem]
        rw [adds_mem_ne]
        · exact a3 x hx
        · intro y hy e
          have := hdi.2.2.1 y hy
          simp only [app, put_mem] at this
          exact (adds_mem_none this).2 x hx e.symm
  · have : app ok dk (app oi di σ) = app oi di (app ok dk σ) := by
      cases dk with
      | none =>
        cases di with
        | none => simp only [app]; exact (put_put (fun k hk => fun e => p2 k hk e) _ _).symm
        | some d' =>
          obtain ⟨v', news'⟩ := d'
          simp only [app]
          rw [put_adds]
          exact (put_put (fun k hk => fun e => p2 k hk e) _ _).symm
      | some d =>
        obtain ⟨v, news⟩ := d
        cases di with
        | none =>
          simp only [app]
          rw [put_adds]
          exact (put_put (fun k hk => fun e => p2 k hk e) _ _).symm
        | some d' =>
          obtain ⟨v', news'⟩ := d'
          simp only [app]
          rw [put_adds, put_adds, put_put (fun k hk => fun e => p2 k hk e)]
          congr 2
          refine adds_comm fun x hx y hy e => ?_
          have := hdi.2.2.1 x hx
          simp only [app, put_mem] at this
          exact (adds_mem_none this).2 y hy e.symm
    rw [this]; exact h

theorem Tr.cons {k : Nat} {l l' : List Nat} {m : Nat → Option Blk} {ok : Oper} (hk : ops[k]? = some ok) (he : isEff E ok.op = false) (hl : ∀ σ, Tr P E ops Q l σ m → Tr P E ops Q l' σ m) (h : Tr P E ops Q (k :: l) σ m) : Tr P E ops Q (k :: l') σ m := by
  simp only [Tr] at h ⊢
  obtain ⟨o1, h1, h⟩ := h
  rw [hk] at h1; cases h1
  rw [if_neg (by simp [he])] at h
  obtain ⟨d, hd, h⟩ := h
  exact ⟨ok, hk, by rw [if_neg (by simp [he])]; exact ⟨d, hd, hl _ h⟩⟩

/-- A quiet operation is moved to the front, past others from which it is apart. -/
theorem Tr.front {i : Nat} {oi : Oper} {m : Nat → Option Blk} (hi : ops[i]? = some oi) (post : List Nat) : ∀ (pre : List Nat) (σ : AS), (∀ k ∈ pre, ∃ ok, ops[k]? = some ok ∧ freeP E ops ok oi = true) → Tr P E ops Q (pre ++ i :: post) σ m → Tr P E ops Q (i :: (pre ++ post)) σ m
  | [], _, _, h => h
  | k :: pre, σ, hf, h => by
    obtain ⟨ok, hk, hf1⟩ := hf k (by simp)
    have he : isEff E ok.op = false := by
      simp only [freeP, Bool.and_eq_true, Bool.not_eq_true'] at hf1
      exact hf1.1.1
    exact Tr.swap hk hi hf1 (Tr.cons hk he (fun σ => Tr.front hi post pre σ fun k hk => hf k (by simp [hk])) h)

/-- What is not listed yet, in the order of the text. -/
def left (ops : Array Oper) (listed : Array Bool) : List Nat := (List.range ops.size).filter fun i => !listed.getD i true

theorem left_split {listed : Array Bool} (hl : listed.size = ops.size) {i : Nat} (hi : i < ops.size) (hu : listed.getD i true = false) :
    ∃ pre post, left ops listed = pre ++ i :: post ∧ (∀ k ∈ pre, k < i ∧ k < ops.size ∧ listed.getD k true = false) ∧ left ops (listed.setIfInBounds i true) = pre ++ post := by
  have hr : List.range ops.size = List.range i ++ i :: List.range' (i + 1) (ops.size - i - 1) := by
    rw [List.range_eq_range', List.range_eq_range', ← List.range'_succ, show ops.size - i - 1 + 1 = ops.size - i by omega]
    have := List.range'_append (s := 0) (m := i) (n := ops.size - i) (step := 1)
    rw [show 0 + 1 * i = i by omega, show i + (ops.size - i) = ops.size by omega] at this
    exact this.symm
  refine ⟨(List.range i).filter fun k => !listed.getD k true, (List.range' (i + 1) (ops.size - i - 1)).filter fun k => !listed.getD k true, ?_, fun k hk => ?_, ?_⟩
  · unfold left
    rw [hr, List.filter_append, List.filter_cons_of_pos (by simp only [hu]; rfl)]
  · simp only [List.mem_filter, List.mem_range, Bool.not_eq_true'] at hk
    exact ⟨hk.1, by omega, hk.2⟩
  · unfold left
    have hset : (listed.setIfInBounds i true).getD i true = true := by simp [hl, hi]
    rw [hr, List.filter_append, List.filter_cons_of_neg (by simp only [hset]; decide)]
    congr 1
    · refine List.filter_congr fun k hk => ?_
      rw [getD_set_ne true (by have := List.mem_range.1 hk; omega)]
    · refine List.filter_congr fun k hk => ?_
      have := (List.mem_range'_1.1 hk).1
      rw [getD_set_ne true (by omega)]

theorem getD_true_false {listed : Array Bool} {i : Nat} (h : i < listed.size) : listed.getD i true = listed.getD i false := by
  simp [h]

/-- Edges go back. -/
def Back (ops : Array Oper) : Prop := ∀ (i : Nat) (o : Oper) (e : Edge), ops[i]? = some o → e ∈ o.after.toList → Region.binds .any e = true → e.on < i
/-- Those that are late may change places, or are bound. -/
def PairOn (E : Tab) (ops : Array Oper) (late : Nat → Prop) : Prop := ∀ (i k : Nat) (oi ok : Oper), ops[i]? = some oi → ops[k]? = some ok → k < i → late i → late k → Anc ops k i ∨ freeP E ops ok oi = true
theorem regOk_back (h : regOk E ops = true) : Back ops := (regOk_spec h).1
theorem regOk_pair (h : regOk E ops = true) : PairOn E ops (fun _ => True) := fun i k oi ok h1 h2 h3 _ _ => (regOk_spec h).2 i k oi ok h1 h2 h3

/-- The same, for the late ones alone. -/
def regOkOn (E : Tab) (ops : Array Oper) (late : List Nat) : Bool :=
  let b := masks ops.toList #[]
  (List.range ops.size).all fun i => match ops[i]? with
    | none => false
    | some oi => (oi.after.toList.all fun e => !Region.binds .any e || e.on < i) &&
      (!late.contains i || (List.range i).all fun k => !late.contains k || ((b.getD i 0).testBit k || match ops[k]? with
        | some ok => freeP E ops ok oi
        | none => false))
theorem regOkOn_spec {late : List Nat} (h : regOkOn E ops late = true) : Back ops ∧ PairOn E ops (fun k => k ∈ late) := by
  unfold regOkOn at h
  simp only [List.all_eq_true, List.mem_range] at h
  refine ⟨fun i o e ho he hb => ?_, fun i k oi ok hi hk hlt h1 h2 => ?_⟩
  · have := h i (Array.getElem?_eq_some_iff.1 ho).1
    simp only [ho, Bool.and_eq_true, List.all_eq_true] at this
    have := this.1 e he
    simp [hb] at this
    exact this
  · have := h i (Array.getElem?_eq_some_iff.1 hi).1
    simp only [hi, Bool.and_eq_true, Bool.or_eq_true, List.all_eq_true, List.mem_range] at this
    have := (this.2.resolve_left (by simp [h1])) k hlt
    simp only [hk, Bool.or_eq_true] at this
    refine (this.resolve_left (by simp [h2])).imp (fun h1 => ?_) id
    exact masks_ok ops.toList #[] (fun j => by simp) (fun i k hk => by simp at hk) i k h1

theorem ready_left (hback : Back ops) {listed : Array Bool} (hl : listed.size = ops.size) (hr : Region.ready .any ops listed = []) : left ops listed = [] := by
  cases hq : left ops listed with
  | nil => rfl
  | cons i l =>
    exfalso
    have hi : i ∈ left ops listed := by rw [hq]; simp
    simp only [left, List.mem_filter, List.mem_range, Bool.not_eq_true'] at hi
    have : i ∈ Region.ready .any ops listed := by
      rw [mem_ready]
      refine ⟨hi.2, ops[i], by simp [hi.1], fun e he hb => ?_⟩
      have hlt := hback i ops[i] e (by simp [hi.1]) (by simpa using he) hb
      have hes : e.on < ops.size := by omega
      -- it is not among what is left: that would come ahead of i
      cases hv : listed.getD e.on false with
      | true => rfl
      | false =>
        exfalso
        have hv' : listed.getD e.on true = false := by rw [getD_true_false (by omega)]; exact hv
        obtain ⟨pre, post, h1, h2, _⟩ := left_split hl hi.1 hi.2
        rw [hq] at h1
        have hpre : pre = [] := by
          cases pre with
          | nil => rfl
          | cons p pre =>
            simp at h1
            have := (h2 p (by simp)).1
            omega
        have hmem : e.on ∈ left ops listed := by
          simp only [left, List.mem_filter, List.mem_range, Bool.not_eq_true']
          exact ⟨hes, hv'⟩
        obtain ⟨pre', post', h3, h4, _⟩ := left_split hl hes hv'
        -- i stands at the head, e.on ahead of i: no place for it
        have hsorted : (left ops listed).Pairwise (· < ·) := List.Pairwise.filter _ List.pairwise_lt_range
        rw [hq] at hsorted hmem
        cases hmem with
        | head => omega
        | tail _ hm => have := List.rel_of_pairwise_cons hsorted hm; omega
    rw [hr] at this
    cases this

theorem drawn_ok (hE : E.ok P) {QQ : Exit → Act → World → Prop} {late : Nat → Prop} (hback : Back ops) (hpair : PairOn E ops late) (hQ : ∀ σ' a' w', Holds w0 L n σ' a' w' → Q σ' → QQ .normal a' w') (hn : ∀ (i : Nat) (o : Oper) (k : Nat), ops[i]? = some o → o.dst = some k → k < n) :
    ∀ (fuel : Nat) {listed : Array Bool} {σ : AS} {a : Act} {w : World} {m : Nat → Option Blk}, listed.size = ops.size → (left ops listed).length ≤ fuel → (∀ k, listed.getD k true = false → late k) → Shut ops listed → Holds w0 L n σ a w → Le σ.mem m → Tr P E ops Q (left ops listed) σ m → wpAny P .any ops QQ fuel listed a w := by
  have done : ∀ {listed : Array Bool} {σ : AS} {a : Act} {w : World} {m : Nat → Option Blk}, left ops listed = [] → Holds w0 L n σ a w → Tr P E ops Q (left ops listed) σ m → QQ .normal a w := fun hleft h ht => by
    rw [hleft] at ht
    exact hQ _ _ _ h ht
  intro fuel
  induction fuel with
  | zero =>
    intro listed σ a w m hl hf hlate hs h hm ht
    have hleft : left ops listed = [] := List.eq_nil_of_length_eq_zero (by omega)
    refine ⟨?_, done hleft h ht⟩
    cases hr : Region.ready .any ops listed with
    | nil => rfl
    | cons i l =>
      exfalso
      have hi : i ∈ Region.ready .any ops listed := by rw [hr]; simp
      rw [mem_ready] at hi
      obtain ⟨hu, o, ho, _⟩ := hi
      have : i ∈ left ops listed := by
        simp only [left, List.mem_filter, List.mem_range, Bool.not_eq_true']
        exact ⟨(Array.getElem?_eq_some_iff.1 ho).1, hu⟩
      rw [hleft] at this
      cases this
  | succ fuel ih =>
    intro listed σ a w m hl hf hlate hs h hm ht
    refine ⟨fun hr => done (ready_left hback hl hr) h ht, fun i hi => ?_⟩
    rw [mem_ready] at hi
    obtain ⟨hu, oi, hoi, hpre⟩ := hi
    have hlt := (Array.getElem?_eq_some_iff.1 hoi).1
    obtain ⟨pre, post, h1, h2, h3⟩ := left_split hl hlt hu
    have hfree : ∀ k ∈ pre, ∃ ok, ops[k]? = some ok ∧ freeP E ops ok oi = true := fun k hk => by
      obtain ⟨k1, k2, k3⟩ := h2 k hk
      have hok' : ops[k]? = some ops[k] := by simp [k2]
      refine ⟨ops[k], hok', ?_⟩
      rcases hpair i k oi ops[k] hoi hok' k1 (hlate i hu) (hlate k k3) with hA | hA
      · have := hA.listed hl hs (fun o e ho he hb => by rw [hoi] at ho; cases ho; exact hpre e (by simpa using he) hb)
        rw [← getD_true_false (by omega), k3] at this
        cases this
      · exact hA
    rw [h1] at ht
    have ht' := Tr.front hoi post pre σ hfree ht
    have hs' : Shut ops (listed.setIfInBounds i true) := fun j o e hj ho he hb => by
      by_cases e1 : i = j
      · subst e1
        rw [hoi] at ho; cases ho
        exact getD_set_true (hpre e (by simpa using he) hb)
      · rw [getD_set_ne true e1] at hj
        exact getD_set_true (hs j o e hj ho he hb)
    have hlate' : ∀ k, (listed.setIfInBounds i true).getD k true = false → late k := fun k hk => hlate k (by
      by_cases e1 : i = k
      · subst e1; exact hu
      · rwa [getD_set_ne true e1] at hk)
    have hf' : (left ops (listed.setIfInBounds i true)).length ≤ fuel := by
      rw [h3]; rw [h1] at hf; simp at hf ⊢; omega
    simp only [Tr] at ht'
    obtain ⟨o, ho, ht'⟩ := ht'
    rw [hoi] at ho; cases ho
    obtain ⟨c, F, hH⟩ := h
    split at ht'
    · rename_i heff
      obtain ⟨hg, rfl, ht'⟩ := ht'
      obtain ⟨σ1, v, ⟨m', hm', k1⟩, k2⟩ := ope_ok hE hH ht'
      unfold wpOp
      simp only [hoi]
      rw [if_pos (by simp [Region.wanted, hg])]
      exact .inl (k2 _ _ fun V w' c' F' k3 k4 => ih (by simpa using hl) hf' hlate' hs' ⟨c', F', k3.put (hn i oi · hoi) k4⟩ hm' (by rw [h3]; exact k1))
    · obtain ⟨d, hd, ht'⟩ := ht'
      exact step_ok hE hH hm hoi (hn i oi · hoi) hd fun a' w' h' => ih (by simpa using hl) hf' hlate' hs' h' (app_mem_le hm hd) (by rw [h3]; exact ht')
end
end Go.Proofs.Ytlijeincckbdaaa
