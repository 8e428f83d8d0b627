/- The abstract machine: code, and functions. -/
import Derived.Test.YtlijeincckbdaaaA15
namespace Go.Proofs.Ytlijeincckbdaaa
open Go.RowKit
set_option linter.unusedSimpArgs false
set_option linter.unusedVariables false

/-- The order of a region that is walked in another order than its text's. -/
noncomputable def findO (id : Nat) (l : List (Nat × List Nat)) : Option (List Nat) :=
  List.rec (motive := fun _ => Option (List Nat)) none (fun x _ ih => if x.1 = id then some x.2 else ih) l
noncomputable def pickL (ops : List Oper) (is : List Nat) : List Oper :=
  List.rec (motive := fun _ => List Oper) [] (fun i _ ih => match ops[i]? with | some o => o :: ih | none => []) is
/-- Operations that yield the same in whatever world. -/
def earlyOp (o : Oper) : Bool := o.guard.isNone && match o.op with
  | .move _ => true
  | .assign _ => true
  | .binOp .. => true
  | .unOp .. => true
  | .slice _ _ _ _ none => true
  | .fieldAddr .. => true
  | .indexAddr .. => true
  | .extract .. => true
  | _ => false
/-- The order heeds the edges. -/
def topoB (ops : Array Oper) : List Nat → List Nat → Bool
  | [], _ => true
  | i :: l, seen => (match ops[i]? with
    | some o => o.after.toList.all fun e => !Region.binds .any e || seen.contains e.on
    | none => false) && (!seen.contains i && topoB ops l (i :: seen))
def okPair (E : Tab) (ops : Array Oper) (b : Array Nat) (k i : Nat) : Bool :=
  (b.getD i 0).testBit k || match ops[k]?, ops[i]? with
    | some ok, some oi => freeP E ops ok oi || (earlyOp ok && isEff E oi.op)
    | _, _ => false
def pairsB (E : Tab) (ops : Array Oper) (b : Array Nat) : List Nat → Bool
  | [] => true
  | k :: l => (l.all fun i => okPair E ops b k i) && pairsB E ops b l
def freeB (ops : Array Oper) (b : Array Nat) (ds : List Nat) : Bool :=
  ds.all fun x => match ops[x]? with
    | some ox => !earlyOp ox || (List.range ops.size).all fun j => j == x || ((b.getD x 0).testBit j || match ops[j]? with
      | some oj => (oj.after.any fun e => Region.binds .any e && e.on == x) || ox.apart ops oj
      | none => true)
    | none => false
def ordOk (E : Tab) (ops : Array Oper) (ds : List Nat) : Bool :=
  let b := masks ops.toList #[]
  Region.noSelect ops && (decide (ds.length ≤ ops.size) && (topoB ops ds [] && ((List.range ops.size).all (fun i => ds.contains i) && (pairsB E ops b ds && freeB ops b ds))))

/-- What is to be shown of a piece of code: Kn: where it ends; Ke: where it leaves a block; Kr: where it returns. -/
def vcCode (P : Program) (E : Tab) (x : Code) : (AS → Prop) → (Nat → AS → Prop) → (AS → Prop) → AS → Prop :=
  Code.rec (motive := fun _ => (AS → Prop) → (Nat → AS → Prop) → (AS → Prop) → AS → Prop)
    (fun Kn _ _ σ => Kn σ)
    (fun id ops _ Kn _ _ σ => match findO id E.ord with
      | some ds => vcOps P E ops (pickL ops.toList ds) σ Kn
      | none => vcOps P E ops ops.toList σ Kn)
    (fun _ _ ix iy Kn Ke Kr σ => ix (fun σ => iy Kn Ke Kr σ) Ke Kr σ)
    (fun c _ _ ix iy Kn Ke Kr σ => match σ.get c with
      | .one (.lit (.bool b)) => match b with
        | true => ix Kn Ke Kr σ
        | false => iy Kn Ke Kr σ
      | _ => False)
    (fun id _ ix Kn Ke Kr σ => ix Kn (fun id' σ => if id' = id then Kn σ else Ke id' σ) Kr σ)
    (fun _ ix _ Ke Kr σ => ∃ I : AS → Nat → Prop, (∃ σ' k, Weak σ σ' ∧ I σ' k) ∧ ∀ σ k, I σ k → ∃ σ1, Weak σ σ1 ∧ ix (fun σ' => ∃ σ'' k', Weak σ' σ'' ∧ k' < k ∧ I σ'' k') Ke Kr σ1)
    (fun _ _ _ _ _ _ _ _ _ _ => False)
    (fun id _ Ke _ σ => Ke id σ)
    (fun _ _ _ _ _ _ => False)
    (fun _ _ _ _ _ => False)
    (fun _ _ _ _ _ => False)
    (fun _ _ Kr σ => Kr σ)
    (fun _ _ _ _ _ => False) x

/-- What can be seen of the code alone. -/
noncomputable def okCode (E : Tab) (n : Nat) : Code → Bool
  | .region id ops draw => (ops.toList.all fun o => match o.dst with
    | some d => d < n
    | none => true) && (match findO id E.ord with
      | some ds => draw && ordOk E ops ds
      | none => !draw || regOk E ops)
  | .seq x y => okCode E n x && okCode E n y
  | .cond _ x y => okCode E n x && okCode E n y
  | .block _ x => okCode E n x
  | .loop x => okCode E n x
  | _ => true

section
variable {P : Program} {w0 w : World} {L : Nat → Prop} {n : Nat} {σ : AS} {a : Act} {c : Ctx} {F : Nat → Nat → Prop}


theorem early_ok {E : Tab} (hE : E.ok P) (h : H w0 L n σ a w c F) {m : Nat → Option Blk} (hsup : Sup σ m) {o : Oper} {K : T → News → Prop} (he : earlyOp o = true) (hk : opn P E (siteOf o) o.op σ.get m K) :
    ∃ v V, K v [] ∧ (∀ w' : World, (execOp a.eval o).run P w' = .ok (.value V) w') ∧ RT c w v V := by
  have pureOp : ∀ {s : Sem Value}, execOp a.eval o = (do pure (.value (← s)) : Sem Next) → (∃ v V, K v [] ∧ (∀ w' : World, s.run P w' = .ok V w') ∧ RT c w v V) →
      ∃ v V, K v [] ∧ (∀ w' : World, (execOp a.eval o).run P w' = .ok (.value V) w') ∧ RT c w v V := by
    intro s hs ⟨v, V, h1, h2, h3⟩
    refine ⟨v, V, h1, fun w' => ?_, h3⟩
    rw [hs, Sem.run_bind, h2 w']
    simp
  unfold earlyOp at he
  simp only [Bool.and_eq_true] at he
  obtain ⟨_, he⟩ := he
  split at he
  · rename_i x ho
    rw [ho] at hk
    exact pureOp (s := pure (a.eval x)) (by simp [execOp, ho]) ⟨σ.get x, _, hk, fun _ => rfl, h.get x⟩
  · rename_i x ho
    rw [ho] at hk
    exact pureOp (s := pure (a.eval x)) (by simp [execOp, ho]) ⟨σ.get x, _, hk, fun _ => rfl, h.get x⟩
  · rename_i op t x y ty ho
    rw [ho] at hk
    replace hk : opBin E K op t (σ.get x) (σ.get y) := hk
    obtain ⟨v, V, h1, h2, h3⟩ := opBin_all hE (h.get x) (h.get y) hk
    have hX : (∃ k n, a.eval x = .int k n) ∨ (∃ s, a.eval x = .string s) ∨ (∃ b, a.eval x = .bool b) ∨ ∃ s n k, a.eval x = .slice s n k := by
      have hx := h.get x
      unfold opBin at hk
      split at hk
      · rename_i e1 _; rw [e1] at hx; exact .inl ⟨_, _, one_lit hx⟩
      · rename_i e1 _; rw [e1] at hx; exact .inr (.inl ⟨_, one_lit hx⟩)
      · rename_i e1 _
        rw [e1] at hx
        obtain ⟨hx, _⟩ := hx
        generalize a.eval x = X at hx ⊢
        cases hx with | nn hx => exact .inr (.inr (.inr ⟨_, _, _, rfl⟩))
      · rename_i e1 _; rw [e1] at hx; exact .inr (.inr (.inr ⟨_, _, _, one_lit hx⟩))
      · rename_i e1 _; rw [e1] at hx; exact .inr (.inr (.inl ⟨_, one_lit hx⟩))
      · exact hk.elim
    exact pureOp (s := binOp op t (a.eval x) (a.eval y)) (by simp [execOp, ho, eqGuard_lit hX]) ⟨v, V, h1, h2, h3⟩
  · rename_i op t x ho
    rw [ho] at hk
    exact pureOp (s := Op.unary op (a.eval x)) (by simp [execOp, ho]) (opUn_all (K := K) (h.get x) hk)
  · rename_i t x lo hi ho
    rw [ho] at hk
    exact pureOp (s := Instr.sliceAt t (a.eval x) (lo.map a.eval) (hi.map a.eval) none) (by simp [execOp, ho]) (opSlice_all hE h hsup (K := K) (h.get x) (ROT.map h lo) (ROT.map h hi) hk)
  · rename_i s x f ho
    rw [ho] at hk
    exact pureOp (s := Instr.fieldAt s (a.eval x) f) (by simp [execOp, ho]) (opFieldAddr_all hE (K := K) (h.get x) hk)
  · rename_i t x i ho
    rw [ho] at hk
    exact pureOp (s := Instr.indexAt t (a.eval x) (a.eval i)) (by simp [execOp, ho]) (opIndexAddr_all hE h hsup (K := K) (h.get x) (h.get i) hk)
  · rename_i x i ho
    rw [ho] at hk
    exact pureOp (s := Instr.extract (a.eval x) i) (by simp [execOp, ho]) (opExtract_all (K := K) (h.get x) hk)
  · cases he

theorem pick_map {ops : Array Oper} {ls : List Nat} (h : ∀ i ∈ ls, i < ops.size) : ls.map (fun i => ops[i]?) = (pickL ops.toList ls).map some := by
  induction ls with
  | nil => rfl
  | cons i ls ih =>
    have hi := h i (by simp)
    have e : pickL ops.toList (i :: ls) = match ops.toList[i]? with | some o => o :: pickL ops.toList ls | none => [] := rfl
    rw [e]
    simp only [List.map_cons, Array.getElem?_toList, Array.getElem?_eq_getElem hi]
    rw [ih fun j hj => h j (by simp [hj])]

theorem early_eff {E : Tab} {o : Oper} (h : earlyOp o = true) : isEff E o.op = false ∧ o.guard = none := by
  unfold earlyOp at h
  simp only [Bool.and_eq_true, Option.isNone_iff_eq_none] at h
  refine ⟨?_, h.1⟩
  have h := h.2
  split at h <;> first | (rename_i ho; rw [ho]; rfl) | cases h

/-- What is not listed yet, in this order. -/
def lft (ds : List Nat) (listed : Array Bool) : List Nat := ds.filter fun i => !listed.getD i true

theorem lft_split {ops : Array Oper} {listed : Array Bool} (hl : listed.size = ops.size) {i : Nat} (hi : i < ops.size) (hu : listed.getD i true = false) : ∀ {ds : List Nat}, ds.Nodup → i ∈ ds →
    ∃ pre post, lft ds listed = pre ++ i :: post ∧ (∀ k ∈ pre, listed.getD k true = false) ∧ lft ds (listed.setIfInBounds i true) = pre ++ post
  | d :: ds, hn, hm => by
    rw [List.nodup_cons] at hn
    by_cases e : d = i
    · subst e
      have hset : (listed.setIfInBounds d true).getD d true = true := by simp [hl, hi]
      refine ⟨[], lft ds listed, ?_, by simp, ?_⟩
      · unfold lft; rw [List.filter_cons_of_pos (by simp only [hu]; rfl)]; rfl
      · unfold lft
        rw [List.filter_cons_of_neg (by simp only [hset]; decide)]
        refine List.filter_congr fun k hk => ?_
        rw [getD_set_ne true (fun e => hn.1 (by rw [e]; exact hk))]
    · have hm' : i ∈ ds := by cases hm with
        | head => exact absurd rfl e
        | tail _ h => exact h
      obtain ⟨pre, post, h1, h2, h3⟩ := lft_split hl hi hu hn.2 hm'
      cases hq : listed.getD d true with
      | true =>
        refine ⟨pre, post, ?_, h2, ?_⟩
        · rw [← h1]; unfold lft; rw [List.filter_cons_of_neg (by simp only [hq]; decide)]
        · rw [← h3]; unfold lft; rw [List.filter_cons_of_neg (by rw [getD_set_ne true (fun e' => e e'.symm)]; simp only [hq]; decide)]
      | false =>
        refine ⟨d :: pre, post, ?_, fun k hk => ?_, ?_⟩
        · rw [List.cons_append, ← h1]; unfold lft; rw [List.filter_cons_of_pos (by simp only [hq]; rfl)]
        · cases hk with
          | head => exact hq
          | tail _ hk => exact h2 k hk
        · rw [List.cons_append, ← h3]; unfold lft; rw [List.filter_cons_of_pos (by rw [getD_set_ne true (fun e' => e e'.symm)]; simp only [hq]; rfl)]

theorem topo_spec {ops : Array Oper} : ∀ {ds seen : List Nat}, topoB ops ds seen = true → ds.Nodup ∧ (∀ i ∈ ds, i ∉ seen ∧ i < ops.size) ∧
    ∀ pre i post, ds = pre ++ i :: post → ∀ (o : Oper) (e : Edge), ops[i]? = some o → e ∈ o.after.toList → Region.binds .any e = true → e.on ∈ pre ∨ e.on ∈ seen
  | [], seen, _ => ⟨List.nodup_nil, by simp, fun pre i post h => by simp at h⟩
  | d :: ds, seen, h => by
    simp only [topoB, Bool.and_eq_true, Bool.not_eq_true'] at h
    obtain ⟨h1, h2, h3⟩ := h
    obtain ⟨i1, i2, i3⟩ := topo_spec h3
    refine ⟨List.nodup_cons.2 ⟨fun hm => (i2 d hm).1 (by simp), i1⟩, fun i hi => ?_, fun pre i post he o e ho hem hb => ?_⟩
    · cases hi with
      | head =>
        refine ⟨by simpa using h2, ?_⟩
        cases hq : ops[d]? with
        | none => rw [hq] at h1; cases h1
        | some o => exact (Array.getElem?_eq_some_iff.1 hq).1
      | tail _ hi => exact ⟨fun hm => (i2 i hi).1 (by simp [hm]), (i2 i hi).2⟩
    · cases pre with
      | nil =>
        simp at he
        obtain ⟨rfl, rfl⟩ := he
        rw [ho] at h1
        simp only [List.all_eq_true] at h1
        have := h1 e hem
        simp [hb] at this
        exact .inr this
      | cons p pre =>
        simp only [List.cons_append, List.cons.injEq] at he
        obtain ⟨rfl, he⟩ := he
        rcases i3 pre i post he o e ho hem hb with h | h
        · exact .inl (by simp [h])
        · cases h with
          | head => exact .inl (by simp)
          | tail _ h => exact .inr h

theorem pairs_spec {E : Tab} {ops : Array Oper} {b : Array Nat} : ∀ {ds : List Nat}, pairsB E ops b ds = true → ds.Pairwise fun k i => okPair E ops b k i = true
  | [], _ => List.Pairwise.nil
  | k :: l, h => by
    simp only [pairsB, Bool.and_eq_true, List.all_eq_true] at h
    exact List.Pairwise.cons h.1 (pairs_spec h.2)

/-- A region that draws its order, walked in another order than its text's. -/
theorem ord_ok {E : Tab} (hE : E.ok P) {ops : Array Oper} {Q : AS → Prop} {QQ : Exit → Act → World → Prop} (hp : ∀ c a w, ¬ QQ (.panic c) a w) {ds : List Nat} (hord : ordOk E ops ds = true)
    (hQ : ∀ σ' a' w', Holds w0 L n σ' a' w' → Q σ' → QQ .normal a' w') (hn : ∀ (i : Nat) (o : Oper) (k : Nat), ops[i]? = some o → o.dst = some k → k < n) :
    ∀ (fuel : Nat) {listed : Array Bool} {σ : AS} {a : Act} {w : World} {m : Nat → Option Blk}, listed.size = ops.size → (lft ds listed).length ≤ fuel → Shut ops listed → Holds w0 L n σ a w → Le σ.mem m → Tr P E ops Q (lft ds listed) σ m → wpAny P .any ops QQ fuel listed a w := by
  unfold ordOk at hord
  simp only [Bool.and_eq_true, List.all_eq_true, List.mem_range] at hord
  obtain ⟨hsel, _, htopo, hall, hpairs, hfree⟩ := hord
  obtain ⟨hnd, hlt, hedge⟩ := topo_spec htopo
  have hpw := pairs_spec hpairs
  have hanc : ∀ i k, ((masks ops.toList #[]).getD i 0).testBit k = true → Anc ops k i := fun i k h => masks_ok ops.toList #[] (fun j => by simp) (fun i k hk => by simp at hk) i k h
  have hmem : ∀ {i : Nat} {listed : Array Bool}, i ∈ lft ds listed ↔ i < ops.size ∧ listed.getD i true = false := fun {i listed} => by
    simp only [lft, List.mem_filter, Bool.not_eq_true']
    exact ⟨fun h => ⟨(hlt i h.1).2, h.2⟩, fun h => ⟨by simpa using hall i h.1, h.2⟩⟩
  intro fuel
  induction fuel with
  | zero =>
    intro listed σ a w m hl hf hs h hm ht
    have hleft : lft ds listed = [] := List.eq_nil_of_length_eq_zero (by omega)
    refine ⟨?_, by rw [hleft] at ht; exact hQ _ _ _ h ht⟩
    cases hr : Region.ready .any ops listed with
    | nil => rfl
    | cons i l =>
      exfalso
      have hi : i ∈ Region.ready .any ops listed := by rw [hr]; simp
      rw [mem_ready] at hi
      obtain ⟨hu, o, ho, _⟩ := hi
      have : i ∈ lft ds listed := hmem.2 ⟨(Array.getElem?_eq_some_iff.1 ho).1, hu⟩
      rw [hleft] at this
      cases this
  | succ fuel ih =>
    intro listed σ a w m hl hf hs h hm ht
    cases hq : lft ds listed with
    | nil =>
      have hr : Region.ready .any ops listed = [] := by
        cases hr : Region.ready .any ops listed with
        | nil => rfl
        | cons i l =>
          exfalso
          have hi : i ∈ Region.ready .any ops listed := by rw [hr]; simp
          rw [mem_ready] at hi
          obtain ⟨hu, o, ho, _⟩ := hi
          have : i ∈ lft ds listed := hmem.2 ⟨(Array.getElem?_eq_some_iff.1 ho).1, hu⟩
          rw [hq] at this
          cases this
      rw [hq] at ht
      exact wpAny_done hr (hQ _ _ _ h ht) _
    | cons d rest =>
      -- the first one is ready
      have hd : d ∈ lft ds listed := by rw [hq]; simp
      obtain ⟨hdl, hdu⟩ := hmem.1 hd
      have hod : ops[d]? = some ops[d] := by simp [hdl]
      generalize ops[d] = od at hod
      have hdm : d ∈ ds := (List.mem_filter.1 hd).1
      obtain ⟨pre0, post0, hds⟩ := List.append_of_mem hdm
      have hpre0 : ∀ k ∈ pre0, listed.getD k true = true := fun k hk => by
        cases hv : listed.getD k true with
        | true => rfl
        | false =>
          exfalso
          have e1 : lft ds listed = lft pre0 listed ++ lft (d :: post0) listed := by rw [hds]; simp [lft]
          have hk' : k ∈ lft pre0 listed := List.mem_filter.2 ⟨hk, by simp only [hv]; rfl⟩
          rw [hq] at e1
          cases hz : lft pre0 listed with
          | nil => rw [hz] at hk'; cases hk'
          | cons p l =>
            rw [hz, List.cons_append] at e1
            have e2 : d = p := (List.cons.injEq .. ▸ e1).1
            have hp' : p ∈ pre0 := (List.mem_filter.1 (by rw [hz]; simp : p ∈ lft pre0 listed)).1
            rw [hds, List.nodup_append] at hnd
            exact hnd.2.2 p hp' d (by simp) e2.symm
      have hdready : ∀ e ∈ od.after, Region.binds .any e = true → listed.getD e.on false = true := fun e he hb => by
        rcases hedge pre0 d post0 hds od e hod (by simpa using he) hb with h1 | h1
        · have h2 := hpre0 e.on h1
          have h3 : e.on < ops.size := (hlt e.on (by rw [hds]; simp [h1])).2
          rwa [getD_true_false (by omega)] at h2
        · cases h1
      have hdr : d ∈ Region.ready .any ops listed := mem_ready.2 ⟨hdu, od, hod, hdready⟩
      have next : ∀ {i : Nat} {oi : Oper}, ops[i]? = some oi → listed.getD i true = false → (∀ e ∈ oi.after, Region.binds .any e = true → listed.getD e.on false = true) → ∃ pre post, lft ds listed = pre ++ i :: post ∧ (∀ k ∈ pre, listed.getD k true = false) ∧ lft ds (listed.setIfInBounds i true) = pre ++ post ∧ Shut ops (listed.setIfInBounds i true) ∧ (lft ds (listed.setIfInBounds i true)).length ≤ fuel := by
        intro i oi hoi hu hpre
        have hi := (Array.getElem?_eq_some_iff.1 hoi).1
        obtain ⟨pre, post, h1, h2, h3⟩ := lft_split hl hi hu hnd (by simpa using hall i hi)
        refine ⟨pre, post, h1, h2, h3, fun j o e hj ho he hb => ?_, by rw [h3]; rw [h1] at hf; simp at hf ⊢; omega⟩
        by_cases e1 : i = j
        · subst e1
          rw [hoi] at ho; cases ho
          exact getD_set_true (hpre e (by simpa using he) hb)
        · rw [getD_set_ne true e1] at hj
          exact getD_set_true (hs j o e hj ho he hb)
      by_cases hearly : earlyOp od = true
      · -- it is taken first
        obtain ⟨heff, hg⟩ := early_eff (E := E) hearly
        obtain ⟨pre, post, h1, h2, h3, hs', hf'⟩ := next hod hdu hdready
        have hpre : pre = [] := by
          cases pre with
          | nil => rfl
          | cons p pre =>
            exfalso
            rw [hq] at h1
            simp only [List.cons_append, List.cons.injEq] at h1
            have hnd' : (lft ds listed).Nodup := List.Pairwise.filter _ hnd
            rw [hq, h1.2, List.nodup_cons] at hnd'
            exact hnd'.1 (by simp)
        subst hpre
        rw [h1] at ht
        simp only [List.nil_append, Tr] at ht
        obtain ⟨o, ho, ht⟩ := ht
        rw [hod] at ho; cases ho
        rw [if_neg (by simp [heff])] at ht
        obtain ⟨dd, hdd, ht⟩ := ht
        obtain ⟨c, F, hH⟩ := h
        cases dd with
        | none =>
          have hdd' : skips ops σ od := hdd
          unfold skips at hdd'
          rw [hg] at hdd'
          exact hdd'.elim
        | some dv =>
          obtain ⟨v, news⟩ := dv
          obtain ⟨_, hop, _, _⟩ := hdd
          have hsup : Sup σ m := ⟨fun s k hs => by
            cases hq : σ.mem s with
            | none => exact .inl rfl
            | some k' => have := hm.1 s k' hq; rw [hs] at this; cases this; exact .inr rfl, hm.2⟩
          obtain ⟨v', V, ⟨rfl, hnews⟩, hrun, hV⟩ := early_ok hE hH hsup hearly hop
          subst hnews
          refine wpAny_first hod (Region.noSelect_spec hsel) (fun c a w hq => (hp _ _ _ hq).elim) fuel listed a w ?_ hdr (v := V) (.inl ⟨by simp [Region.wanted, hg], hrun⟩) ?_
          · intro j oj hj hne hun hno
            have hfd : _ := List.all_eq_true.1 hfree d hdm
            simp only [hod, hearly, Bool.not_true, Bool.false_or, List.all_eq_true, List.mem_range] at hfd
            have := hfd j (Array.getElem?_eq_some_iff.1 hj).1
            simp only [hj, Bool.or_eq_true, beq_iff_eq, hne, false_or] at this
            rcases this with h4 | h4 | h4
            · exfalso
              have := (hanc d j h4).listed hl hs (fun o e ho he hb => by rw [hod] at ho; cases ho; exact hdready e (by simpa using he) hb)
              rw [← getD_true_false (by rw [hl]; exact (Array.getElem?_eq_some_iff.1 hj).1), hun] at this
              cases this
            · exfalso
              obtain ⟨e, he, hb⟩ := Array.any_eq_true'.1 h4
              simp only [Bool.and_eq_true, beq_iff_eq] at hb
              exact hno e he hb.1 hb.2
            · exact h4
          · refine ih (by simpa using hl) hf' hs' ⟨c, F, hH.put (hn d od · hod) hV⟩ (m := m) ?_ (by rw [h3]; exact ht)
            rw [put_mem]; exact hm
      · refine ⟨fun hr => (by rw [hr] at hdr; cases hdr), fun i hi => ?_⟩
        rw [mem_ready] at hi
        obtain ⟨hu, oi, hoi, hpre⟩ := hi
        obtain ⟨pre, post, h1, h2, h3, hs', hf'⟩ := next hoi hu hpre
        have hpw' : (lft ds listed).Pairwise fun k i => okPair E ops (masks ops.toList #[]) k i = true := List.Pairwise.filter _ hpw
        have hfr : ∀ k ∈ pre, ∃ ok, ops[k]? = some ok ∧ freeP E ops ok oi = true := by
          have one : ∀ k ∈ pre, ∃ ok, ops[k]? = some ok ∧ (freeP E ops ok oi = true ∨ (earlyOp ok = true ∧ isEff E oi.op = true)) := fun k hk => by
            have hkl : k ∈ lft ds listed := by rw [h1]; simp [hk]
            obtain ⟨k1, k2⟩ := hmem.1 hkl
            have hok' : ops[k]? = some ops[k] := by simp [k1]
            refine ⟨ops[k], hok', ?_⟩
            rw [h1, List.pairwise_append] at hpw'
            have := hpw'.2.2 k hk i (by simp)
            unfold okPair at this
            rw [hok', hoi] at this
            simp only [Bool.or_eq_true, Bool.and_eq_true] at this
            rcases this with h4 | h4
            · exfalso
              have := (hanc i k h4).listed hl hs (fun o e ho he hb => by rw [hoi] at ho; cases ho; exact hpre e (by simpa using he) hb)
              rw [← getD_true_false (by omega), k2] at this
              cases this
            · exact h4
          intro k hk
          -- the first one is no early one: so what comes is no effect
          have hdp : d ∈ pre := by
            cases pre with
            | nil => cases hk
            | cons p pre =>
              rw [hq] at h1
              simp only [List.cons_append, List.cons.injEq] at h1
              rw [h1.1]; simp
          obtain ⟨ok, hok', h4⟩ := one d hdp
          rw [hod] at hok'; cases hok'
          have hne : isEff E oi.op = false := by
            rcases h4 with h4 | h4
            · simp only [freeP, Bool.and_eq_true, Bool.not_eq_true'] at h4
              exact h4.1.2
            · exact absurd h4.1 hearly
          obtain ⟨ok, hok', h5⟩ := one k hk
          exact ⟨ok, hok', h5.resolve_right fun h => by rw [hne] at h; cases h.2⟩
        rw [h1] at ht
        have ht' := Tr.front hoi post pre σ hfr ht
        simp only [Tr] at ht'
        obtain ⟨o, ho, ht'⟩ := ht'
        rw [hoi] at ho; cases ho
        obtain ⟨c, F, hH⟩ := h
        split at ht'
        · rename_i heff
          obtain ⟨hg, rfl, ht'⟩ := ht'
          obtain ⟨σ1, v, ⟨m', hm', k1⟩, k2⟩ := ope_ok hE hH ht'
          unfold wpOp
          simp only [hoi]
          rw [if_pos (by simp [Region.wanted, hg])]
          exact .inl (k2 _ _ fun V w' c' F' k3 k4 => ih (by simpa using hl) hf' hs' ⟨c', F', k3.put (hn i oi · hoi) k4⟩ hm' (by rw [h3]; exact k1))
        · obtain ⟨d', hd', ht'⟩ := ht'
          exact step_ok hE hH hm hoi (hn i oi · hoi) hd' fun a' w' h' => ih (by simpa using hl) hf' hs' h' (app_mem_le hm hd') (by rw [h3]; exact ht')

theorem vc_ok {E : Tab} (hE : E.ok P) (hmix : P.follows .mixedOrders = true) : ∀ (x : Code) {Kn Kr : AS → Prop} {Ke : Nat → AS → Prop} {QQ : Exit → Act → World → Prop} {σ : AS} {a : Act} {w : World},
    okCode E n x = true → (∀ σ' a' w', Holds w0 L n σ' a' w' → Kn σ' → QQ .normal a' w') → (∀ id σ' a' w', Holds w0 L n σ' a' w' → Ke id σ' → QQ (.exit id) a' w') → (∀ σ' a' w', Holds w0 L n σ' a' w' → Kr σ' → QQ .ret a' w') →
    vcCode P E x Kn Ke Kr σ → Holds w0 L n σ a w → x.wp P QQ a w
  | .skip, Kn, Kr, Ke, QQ, σ, a, w, _, hn, _, _, h, hH => wp_skip (hn _ _ _ hH h)
  | .region id ops draw, Kn, Kr, Ke, QQ, σ, a, w, hok, hn, _, _, h, hH => by
    simp only [okCode, Bool.and_eq_true, List.all_eq_true] at hok
    obtain ⟨hd, hdr⟩ := hok
    have hdst : ∀ (i : Nat) (o : Oper) (k : Nat), ops[i]? = some o → o.dst = some k → k < n := fun i o k ho hk => by
      have := hd o (by simpa using Array.mem_of_getElem? ho)
      rw [hk] at this
      simpa using this
    replace h : (match findO id E.ord with
      | some ds => vcOps P E ops (pickL ops.toList ds) σ Kn
      | none => vcOps P E ops ops.toList σ Kn) := h
    have hz : left ops (Array.replicate ops.size false) = List.range ops.size := by
      unfold left
      refine List.filter_eq_self.2 fun i hi => ?_
      have := List.mem_range.1 hi
      simp [this]
    have hsh : Shut ops (Array.replicate ops.size false) := fun i o e hi ho _ _ => by
      have hlt := (Array.getElem?_eq_some_iff.1 ho).1
      simp [hlt] at hi
    split at h
    · rename_i ds hx
      rw [hx] at hdr
      simp only [Bool.and_eq_true] at hdr
      obtain ⟨rfl, hf⟩ := hdr
      refine wp_mono (Q := fun e a w => QQ e a w ∧ ∀ c, e ≠ .panic c) ?_ (fun e a w h => h.1)
      refine wp_region_any hmix ?_
      obtain ⟨c, F, hH⟩ := hH
      have hf0 := hf
      unfold ordOk at hf0
      simp only [Bool.and_eq_true] at hf0
      obtain ⟨t1, t2, _⟩ := topo_spec hf0.2.2.1
      have hlen : ds.length ≤ ops.size := by simpa using hf0.2.1
      have hlf : lft ds (Array.replicate ops.size false) = ds := by
        unfold lft
        refine List.filter_eq_self.2 fun i hi => ?_
        have := (t2 i hi).2
        simp [this]
      obtain ⟨m, hm, ht⟩ := tr_of_vc (E := E) (ops := ops) (Q := Kn) _ ds σ (pick_map fun i hi => (t2 i hi).2) h
      exact ord_ok hE (QQ := fun e a w => QQ e a w ∧ ∀ c, e ≠ .panic c) (Q := Kn) (fun c a w h => h.2 c rfl) hf (fun σ' a' w' h1 h2 => ⟨hn _ _ _ h1 h2, fun c h => by cases h⟩) hdst ops.size (by simp) (by rw [hlf]; exact hlen) hsh ⟨c, F, hH.drawn⟩ hm (by rw [hlf]; exact ht)
    · rename_i hx
      rw [hx] at hdr
      obtain ⟨m, hm, ht⟩ := tr_of_vc (E := E) (ops := ops) (Q := Kn) ops.toList (List.range ops.size) σ (by
        apply List.ext_getElem?
        intro j
        simp only [List.getElem?_map, Array.getElem?_toList]
        by_cases hj : j < ops.size
        · simp [hj]
        · simp [hj]) h
      cases draw with
      | false =>
        refine wp_region ?_
        exact region_ok hE hn hdst _ hH hm ht
      | true =>
        have hreg : regOk E ops = true := by simpa using hdr
        refine wp_region_any hmix ?_
        obtain ⟨c, F, hH⟩ := hH
        exact drawn_ok hE (regOk_back hreg) (regOk_pair hreg) hn hdst ops.size (by simp) (by rw [hz]; simp) (fun _ _ => trivial) hsh ⟨c, F, hH.drawn⟩ hm (by rw [hz]; exact ht)
  | .seq x y, Kn, Kr, Ke, QQ, σ, a, w, hok, hn, he, hr, h, hH => by
    simp only [okCode, Bool.and_eq_true] at hok
    refine wp_seq (vc_ok hE hmix x (QQ := Exit.then (y.wp P QQ) QQ) hok.1 (fun σ' a' w' h1 h2 => ?_) he hr h hH)
    exact vc_ok hE hmix y hok.2 hn he hr h2 h1
  | .cond q x y, Kn, Kr, Ke, QQ, σ, a, w, hok, hn, he, hr, h, hH => by
    simp only [okCode, Bool.and_eq_true] at hok
    replace h : (match σ.get q with
      | .one (.lit (.bool b)) => match b with
        | true => vcCode P E x Kn Ke Kr σ
        | false => vcCode P E y Kn Ke Kr σ
      | _ => False) := h
    split at h
    case h_2 => exact h.elim
    rename_i b hb
    obtain ⟨c, F, hH'⟩ := hH
    have hg := hH'.get q
    rw [hb] at hg
    have hv := one_lit hg
    refine wp_cond_split hv (fun e => ?_) (fun e => ?_)
    · subst e; exact vc_ok hE hmix x hok.1 hn he hr h ⟨c, F, hH'⟩
    · subst e; exact vc_ok hE hmix y hok.2 hn he hr h ⟨c, F, hH'⟩
  | .block id x, Kn, Kr, Ke, QQ, σ, a, w, hok, hn, he, hr, h, hH => by
    refine wp_block (vc_ok hE hmix x (QQ := Exit.inBlock id QQ) (by simpa [okCode] using hok) hn (fun id' σ' a' w' h1 h2 => ?_) hr h hH)
    simp only [Exit.inBlock]
    by_cases e : id' = id
    · rw [if_pos e] at h2 ⊢; exact hn _ _ _ h1 h2
    · rw [if_neg e] at h2 ⊢; exact he _ _ _ _ h1 h2
  | .loop x, Kn, Kr, Ke, QQ, σ, a, w, hok, hn, he, hr, h, hH => by
    obtain ⟨I, ⟨σ0, k0, hw0, hI0⟩, hround⟩ := h
    intro b k' cs
    have key : ∀ (k : Nat) (σ : AS) (a : Act) (w : World), I σ k → Holds w0 L n σ a w → ∃ e a' w', QQ e a' w' ∧ Arrives P (lone (b.at a (.code x :: .inLoop x :: k')) cs w) b k' cs e a' w' := by
      intro k
      induction k using Nat.strongRecOn with
      | _ k ih =>
        intro σ a w hI hH
        obtain ⟨σ1, hw1, hr1⟩ := hround σ k hI
        have h1 := vc_ok hE hmix x (Kn := fun σ' => ∃ σ'' k', Weak σ' σ'' ∧ k' < k ∧ I σ'' k') (QQ := Exit.then (fun a' w' => ∃ σ'' k', k' < k ∧ I σ'' k' ∧ Holds w0 L n σ'' a' w') QQ) (by simpa [okCode] using hok) (fun σ' a' w' h1 ⟨σ'', k', h2, h3, h4⟩ => ⟨σ'', k', h3, h4, h2 _ _ _ _ _ h1⟩) he hr hr1 (hw1 _ _ _ _ _ hH)
        obtain ⟨e, a₁, w₁, hq, harr⟩ := h1 b (.inLoop x :: k') cs
        cases e with
        | normal =>
          obtain ⟨σ'', k'', h3, h4, h5⟩ := hq
          obtain ⟨e₂, a₂, w₂, hq₂, harr₂⟩ := ih k'' h3 σ'' a₁ w₁ h4 h5
          exact ⟨e₂, a₂, w₂, hq₂, .of_steps (Steps.trans harr (.one step_inLoop)) harr₂⟩
        | exit id => exact ⟨_, a₁, w₁, hq, .pass (x := .inLoop x) rfl (fun _ _ => .inl (by simp)) harr⟩
        | goto l => exact ⟨_, a₁, w₁, hq, .pass (x := .inLoop x) rfl (fun _ _ => .inl (by simp)) harr⟩
        | ret => exact ⟨_, a₁, w₁, hq, .pass (x := .inLoop x) rfl (fun _ _ => .inl (by simp)) harr⟩
        | panic ch => exact ⟨_, a₁, w₁, hq, .pass (x := .inLoop x) rfl (fun _ _ => .inl (by simp)) harr⟩
        | outgrown => exact ⟨_, a₁, w₁, hq, .pass (x := .inLoop x) rfl (fun _ _ => .inl (by simp)) harr⟩
    obtain ⟨e, a', w', hq, harr⟩ := key k0 σ0 a w hI0 (hw0 _ _ _ _ _ hH)
    exact ⟨e, a', w', hq, .of_steps (.one step_loop) harr⟩
  | .exit id, Kn, Kr, Ke, QQ, σ, a, w, _, _, he, _, h, hH => wp_exit (he _ _ _ _ hH h)
  | .ret, Kn, Kr, Ke, QQ, σ, a, w, _, _, _, hr, h, hH => wp_ret (hr _ _ _ hH h)
  | .rangeFunc .., Kn, Kr, Ke, QQ, σ, a, w, _, _, _, _, h, _ => h.elim
  | .scope _, Kn, Kr, Ke, QQ, σ, a, w, _, _, _, _, h, _ => h.elim
  | .label _, Kn, Kr, Ke, QQ, σ, a, w, _, _, _, _, h, _ => h.elim
  | .goto _, Kn, Kr, Ke, QQ, σ, a, w, _, _, _, _, h, _ => h.elim
  | .refuse _, Kn, Kr, Ke, QQ, σ, a, w, _, _, _, _, h, _ => h.elim

/-- A result's cells. -/
def resV (E : Tab) (σ : AS) : ResultVar → Option (Bool × List AV)
  | .tmp t => match σ.tm t with
    | .one x => some (false, [x])
    | .agg xs => some (true, xs)
    | _ => none
  | .cell t ty => match E.ty ty, σ.tm t with
    | some (sz, g), .one (.ptr s 0) => match σ.mem s with
      | some (.var xs) => if xs.length = sz then some (g, xs) else none
      | _ => none
    | _, _ => none
def resVs (E : Tab) (σ : AS) : List ResultVar → Option (List (Bool × List AV))
  | [] => some []
  | r :: l => match resV E σ r, resVs E σ l with
    | some x, some xs => some (x :: xs)
    | _, _ => none

/-- A nil slice is a row of no elements. -/
def nilA : AV → AV → Prop
  | .lit (.slice none 0 0), y => y = .lit (.slice none 0 0) ∨ ∃ k, y = .row true k []
  | x, y => y = x
def nilL : List AV → List AV → Prop
  | [], [] => True
  | x :: xs, y :: ys => nilA x y ∧ nilL xs ys
  | _, _ => False
def nilR : List (List AV) → List (List AV) → Prop
  | [], [] => True
  | x :: xs, y :: ys => nilL x y ∧ nilR xs ys
  | _, _ => False
theorem nilA_refl (x : AV) : nilA x x := by
  unfold nilA
  split
  · exact .inl rfl
  · rfl
theorem nilL_refl : ∀ xs : List AV, nilL xs xs
  | [] => trivial
  | x :: xs => ⟨nilA_refl x, nilL_refl xs⟩
theorem nilR_refl : ∀ xs : List (List AV), nilR xs xs
  | [] => trivial
  | x :: xs => ⟨nilL_refl x, nilR_refl xs⟩
theorem nilL_at : ∀ {xs ys : List AV}, nilL xs ys → xs.length = ys.length ∧ ∀ (j : Nat) (y : AV), ys[j]? = some y → ∃ x, xs[j]? = some x ∧ nilA x y
  | [], [], _ => ⟨rfl, fun j y h => by simp at h⟩
  | x :: xs, y :: ys, h => by
    obtain ⟨h1, h2⟩ := nilL_at h.2
    refine ⟨by simp [h1], fun j z hz => ?_⟩
    cases j with
    | zero => simp at hz; subst hz; exact ⟨x, rfl, h.1⟩
    | succ j => obtain ⟨u, hu, hn⟩ := h2 j z (by simpa using hz); exact ⟨u, by simpa using hu, hn⟩
theorem nilR_at : ∀ {xs ys : List (List AV)}, nilR xs ys → xs.length = ys.length ∧ (∀ (i : Nat) (e : List AV), ys[i]? = some e → ∃ d, xs[i]? = some d ∧ nilL d e) ∧ ∀ (i : Nat) (d : List AV), xs[i]? = some d → ∃ e, ys[i]? = some e ∧ nilL d e
  | [], [], _ => ⟨rfl, fun i e h => by simp at h, fun i e h => by simp at h⟩
  | x :: xs, y :: ys, h => by
    obtain ⟨h1, h2, h3⟩ := nilR_at h.2
    refine ⟨by simp [h1], fun i e he => ?_, fun i e he => ?_⟩
    · cases i with
      | zero => simp at he; subst he; exact ⟨x, rfl, h.1⟩
      | succ i => obtain ⟨u, hu, hn⟩ := h2 i e (by simpa using he); exact ⟨u, by simpa using hu, hn⟩
    · cases i with
      | zero => simp at he; subst he; exact ⟨y, rfl, h.1⟩
      | succ i => obtain ⟨u, hu, hn⟩ := h3 i e (by simpa using he); exact ⟨u, by simpa using hu, hn⟩
theorem nilR_elt {es es' : List (List AV)} (h : nilR es es') {i j : Nat} {y : AV} (hy : elt es' i j = some y) : ∃ x, elt es i j = some x ∧ nilA x y := by
  unfold elt at hy ⊢
  cases he : es'[i]? with
  | none => simp [he] at hy
  | some e =>
    obtain ⟨d, hd, hl⟩ := (nilR_at h).2.1 i e he
    simp only [he, Option.bind_some] at hy
    obtain ⟨x, hx, hn⟩ := (nilL_at hl).2 j y hy
    exact ⟨x, by rw [hd]; exact hx, hn⟩
theorem RO.nil1 {x y : AV} {v : Value} {G : Nat → Prop} (h : RO c w G x v) (hn : nilA x y) : RO c w G y v := by
  unfold nilA at hn
  split at hn
  · rcases hn with rfl | ⟨k, rfl⟩
    · exact h
    · cases h with
      | plain h1 h2 h3 => cases h2; exact .nil h3
  · subst hn; exact h
theorem RO.nils {sz : Nat} {es es' : List (List AV)} {v : Value} {G : Nat → Prop} (h : RO c w G (.row true sz es) v) (hn : nilR es es') : RO c w G (.row true sz es') v := by
  rcases h.inv with ⟨h1, h2, h3⟩ | ⟨b, cap, A, rfl, hA, C, e, fz, G', a1, a2, a3, a4, a5, a6, a7, a8, a9, a10, a11, a12⟩
  · subst h1 h2
    have : es' = [] := List.eq_nil_of_length_eq_zero (nilR_at hn).1.symm
    subst this
    exact .nil h3
  · obtain ⟨hl, hn1, hn2⟩ := nilR_at hn
    rw [hl]
    refine .own b C e fz G' a1 a2 (by omega) a4 a5 (fun e' he' => ?_) (fun i j y u hy hu => ?_) (fun i j y u hy hu => ?_) a9 a10 (fun i j k hk => ?_) a12 hA
    · obtain ⟨i, hi⟩ := List.getElem?_of_mem he'
      obtain ⟨d, hd, hdl⟩ := hn1 i e' hi
      rw [← (nilL_at hdl).1]; exact a6 d (List.mem_of_getElem? hd)
    · obtain ⟨x, hx, _⟩ := nilR_elt hn hy
      exact a7 i j x u hx hu
    · obtain ⟨x, hx, hxy⟩ := nilR_elt hn hy
      exact ((a8 i j x u hx hu).resolve_right (by simp)).nil1 hxy
    · have h5 := a11 i j k hk
      obtain ⟨x, hx⟩ := Option.isSome_iff_exists.1 h5
      obtain ⟨hi, hj⟩ := elt_lt a6 hx
      unfold elt
      cases hd : es[i]? with
      | none => unfold elt at hx; simp [hd] at hx
      | some d =>
        obtain ⟨e', he', hdl⟩ := hn2 i d hd
        have h6 := a6 d (List.mem_of_getElem? hd)
        have h7 := (nilL_at hdl).1
        rw [he']
        simp only [Option.bind_some, Option.isSome_iff_exists]
        exact ⟨e'[j]'(by omega), by simp⟩

/-- A cell is handed back as this. -/
def closeAV (m : Nat → Option Blk) : AV → AV → Prop
  | .lit (.slice none 0 0), y => y = .lit (.slice none 0 0) ∨ ∃ sz, y = .row true sz []
  | .lit v, y => y = .lit v
  | .loc s off len, y => match m s with
    | some (.row true sz es) => off = 0 ∧ len = es.length ∧ ∃ es', y = .row true sz es' ∧ nilR es es'
    | _ => False
  | _, _ => False
def closeL (m : Nat → Option Blk) : List AV → List AV → Prop
  | [], [] => True
  | x :: xs, y :: ys => closeAV m x y ∧ closeL m xs ys
  | _, _ => False
def closeTs (m : Nat → Option Blk) : List (Bool × List AV) → List (Bool × List AV) → Prop
  | [], [] => True
  | x :: xs, y :: ys => x.1 = y.1 ∧ closeL m x.2 y.2 ∧ closeTs m xs ys
  | _, _ => False
def locs : List AV → List Nat
  | [] => []
  | .loc s _ _ :: l => s :: locs l
  | _ :: l => locs l
def locsT : List (Bool × List AV) → List Nat
  | [] => []
  | x :: l => locs x.2 ++ locsT l
def wellT : List (Bool × List AV) → Bool
  | [] => true
  | x :: l => (x.1 || x.2.length == 1) && wellT l

def nodupB : List Nat → Bool
  | [] => true
  | x :: l => (l.all fun y => y != x) && nodupB l
theorem nodupB_ok : ∀ {l : List Nat}, nodupB l = true → l.Nodup
  | [], _ => List.nodup_nil
  | x :: l, h => by
    simp only [nodupB, Bool.and_eq_true, List.all_eq_true] at h
    exact List.nodup_cons.2 ⟨fun hm => by have := h.1 x hm; simp at this, nodupB_ok h.2⟩

/-- What is to hold where a function returns. -/
def fin (E : Tab) (rs : List ResultVar) (r : T) (σ : AS) : Prop :=
  match resVs E σ rs with
  | some vs => if (nodupB (locsT vs) && wellT vs) = true then (match vs, r with
    | [(false, xs)], .one y => closeL σ.mem xs [y]
    | [(true, xs)], .agg ys => closeL σ.mem xs ys
    | [], .tup ts => closeTs σ.mem [] ts
    | x :: y :: l, .tup ts => closeTs σ.mem (x :: y :: l) ts
    | _, _ => False) else False
  | none => False

theorem closeAV_ok (h : H w0 L n σ a w c F) {x y : AV} {v : Value} (hX : R c w x v) (hk : closeAV σ.mem x y) : RO c w (fun k => ∃ s ∈ locs [x], F s k) y v := by
  unfold closeAV at hk
  split at hk
  · cases hX
    rcases hk with rfl | ⟨sz, rfl⟩
    · exact .plain rfl (.lit _) (by simp [locs])
    · exact .nil (by simp [locs])
  · subst hk
    cases hX
    exact .plain rfl (.lit _) (by simp [locs])
  · rename_i s off len
    split at hk
    case h_2 => exact hk.elim
    rename_i sz es hs
    obtain ⟨rfl, rfl, es', rfl, hnil⟩ := hk
    refine RO.nils ?_ hnil
    have e : (fun k => ∃ s' ∈ locs [AV.loc s 0 es.length], F s' k) = F s := by funext k; simp [locs]
    rw [e]
    rcases h.mem s _ hs with ⟨hat, rfl, hF⟩ | ⟨b, cap, hat, hB⟩
    · cases hX with
      | locnil => exact .nil hF
      | loc h1 => rw [hat] at h1; cases h1
    · generalize hq : es.length = q at hX
      cases hX with
      | locnil h1 => rw [hat] at h1; cases h1
      | @loc _ _ _ b' cap' sz' A h1 hle hA =>
        rw [hat] at h1; cases h1
        subst hq
        exact hB.own (fun hc => by simpa using hA hc)
  · exact hk.elim

theorem locs_cons (x : AV) (xs : List AV) : locs (x :: xs) = locs [x] ++ locs xs := by cases x <;> simp [locs]

theorem closeL_ok (h : H w0 L n σ a w c F) : ∀ {xs ys : List AV} {vs : List Value}, (locs xs).Nodup → RL c w xs vs → closeL σ.mem xs ys → ROL c w (fun k => ∃ s ∈ locs xs, F s k) ys vs
  | [], [], [], _, _, _ => by simp [ROL, locs]
  | x :: xs, y :: ys, v :: vs, hn, hR, hk => by
    rw [locs_cons] at hn
    have hd := List.nodup_append.1 hn
    refine ⟨fun k => ∃ s ∈ locs [x], F s k, fun k => ∃ s ∈ locs xs, F s k, ⟨closeAV_ok h hR.1.1 hk.1, hR.1.2⟩, closeL_ok h hd.2.1 hR.2 hk.2, fun k => ?_, fun k => ?_⟩
    · rintro ⟨s, h1, h2⟩ ⟨s', h3, h4⟩
      have := h.disj _ _ _ h2 h4
      subst this
      exact hd.2.2 s h1 s h3 rfl
    · rw [locs_cons]; simp [or_and_right, exists_or]
theorem closeTs_ok (h : H w0 L n σ a w c F) : ∀ {ts us : List (Bool × List AV)} {vs : List Value}, (locsT ts).Nodup → wellT ts = true → RTs c w ts vs → closeTs σ.mem ts us → ROTs c w (fun k => ∃ s ∈ locsT ts, F s k) us vs
  | [], [], [], _, _, _, _ => by simp [ROTs, locsT]
  | (false, [x]) :: ts, (false, [y]) :: us, v :: vs, hn, hw, hR, hk => by
    simp only [locsT] at hn
    have hd := List.nodup_append.1 hn
    refine ⟨fun k => ∃ s ∈ locs [x], F s k, fun k => ∃ s ∈ locsT ts, F s k, ⟨closeAV_ok h hR.1.1 hk.2.1.1, hR.1.2⟩, closeTs_ok h hd.2.1 (by simpa [wellT] using hw) hR.2 hk.2.2, fun k => ?_, fun k => ?_⟩
    · rintro ⟨s, h1, h2⟩ ⟨s', h3, h4⟩
      have := h.disj _ _ _ h2 h4
      subst this
      exact hd.2.2 s h1 s h3 rfl
    · simp [locsT, or_and_right, exists_or]
  | (true, xs) :: ts, (true, ys) :: us, .agg vs' :: vs, hn, hw, hR, hk => by
    simp only [locsT] at hn
    have hd := List.nodup_append.1 hn
    refine ⟨fun k => ∃ s ∈ locs xs, F s k, fun k => ∃ s ∈ locsT ts, F s k, closeL_ok h hd.1 hR.1 hk.2.1, closeTs_ok h hd.2.1 (by simpa [wellT] using hw) hR.2 hk.2.2, fun k => ?_, fun k => ?_⟩
    · rintro ⟨s, h1, h2⟩ ⟨s', h3, h4⟩
      have := h.disj _ _ _ h2 h4
      subst this
      exact hd.2.2 s h1 s h3 rfl
    · simp [locsT, or_and_right, exists_or]

def resRun (tmps : Array Value) : ResultVar → Sem Value
  | .tmp t => pure (tmps.getD t undef)
  | .cell a t => do loadVar t (← asAddr (tmps.getD a undef))

theorem resV_ok {E : Tab} (hE : E.ok P) (h : H w0 L n σ a w c F) {r : ResultVar} {x : Bool × List AV} (hr : resV E σ r = some x) :
    ∃ V, (resRun a.tmps r).run P w = .ok V w ∧ ((x.1 = false ∧ ∃ y, x.2 = [y] ∧ R c w y V ∧ V.oneCell' = true) ∨ (x.1 = true ∧ ∃ vs, V = .agg vs ∧ RL c w x.2 vs.toList)) := by
  cases r with
  | tmp t =>
    simp only [resV] at hr
    have ht := h.tm t
    refine ⟨a.tmps.getD t undef, rfl, ?_⟩
    split at hr
    · rename_i y hy
      rw [hy] at ht
      cases hr
      exact .inl ⟨rfl, y, rfl, ht⟩
    · rename_i xs hy
      rw [hy] at ht
      cases hr
      refine .inr ⟨rfl, ?_⟩
      generalize a.tmps.getD t undef = V at ht ⊢
      cases V <;> first | exact ht.elim | exact ⟨_, rfl, ht⟩
    · cases hr
  | cell t ty =>
    simp only [resV] at hr
    split at hr
    case h_2 => cases hr
    rename_i sz g s hty hts
    replace hty := Tab.ty_ok hE hty
    split at hr
    case h_2 => cases hr
    rename_i xs hs
    split at hr
    case isFalse => cases hr
    rename_i hl
    cases hr
    have ht := h.tm t
    rw [hts] at ht
    obtain ⟨ht, _⟩ := ht
    generalize hq : a.tmps.getD t undef = V at ht
    cases ht with | @ptr _ _ b hp =>
    obtain ⟨b', hat, _, vs, hR, hv⟩ := h.varCells hs
    rw [hp] at hat; cases hat
    have hrun := run_loadVar_cells (P := P) (w := w) hty (b := b) (o := 0) vs (by rw [← hR.length]; exact hl) (fun k v hk => by rw [Nat.zero_add]; exact hv k v hk)
    refine ⟨_, by simp only [resRun, hq, asAddr, pure_bind]; exact hrun, ?_⟩
    cases g with
    | true => exact .inr ⟨rfl, _, rfl, hR⟩
    | false =>
      obtain ⟨i, d, _, _, _, _, h1⟩ := tyI_some hty
      have := h1 rfl
      rw [this] at hl
      match xs, vs, hl, hR with
      | [x], [v], _, hR => exact .inl ⟨rfl, x, rfl, hR.1⟩

theorem resVs_ok {E : Tab} (hE : E.ok P) (h : H w0 L n σ a w c F) : ∀ {rs : List ResultVar} {xs : List (Bool × List AV)}, resVs E σ rs = some xs → ∃ Vs : List Value, (rs.mapM (resRun a.tmps)).run P w = .ok Vs w ∧ RTs c w xs Vs ∧ Vs.length = rs.length
  | [], xs, hr => by simp [resVs] at hr; subst hr; exact ⟨[], by simp, trivial, rfl⟩
  | r :: rs, xs, hr => by
    simp only [resVs] at hr
    split at hr
    case h_2 => cases hr
    rename_i x xs' hx hxs
    cases hr
    obtain ⟨V, h1, h2⟩ := resV_ok hE h hx
    obtain ⟨Vs, h3, h4, h5⟩ := resVs_ok hE h hxs
    refine ⟨V :: Vs, ?_, ?_, by simp [h5]⟩
    · rw [List.mapM_cons, Sem.run_bind, h1]
      simp only [Result.andThen_ok, Sem.run_bind, h3, Sem.run_pure]
    · obtain ⟨b, ys⟩ := x
      rcases h2 with ⟨rfl, y, rfl, h2⟩ | ⟨rfl, vs, rfl, h2⟩
      · exact ⟨h2, h4⟩
      · exact ⟨h2, h4⟩

theorem fin_ok {E : Tab} (hE : E.ok P) (h : H w0 L n σ a w c F) {fn : Func} {r : T} (hk : fin E fn.results.toList r σ) :
    ∃ V, (results fn a.tmps).run P w = .ok V w ∧ ∃ G : Nat → Prop, ROT' c w G r V ∧ ∀ k, G k → ∃ s, F s k := by
  unfold fin at hk
  split at hk
  case h_2 => exact hk.elim
  rename_i vs hvs
  split at hk
  case isFalse => exact hk.elim
  rename_i hnw
  simp only [Bool.and_eq_true] at hnw
  obtain ⟨hn, hw⟩ := hnw
  replace hn := nodupB_ok hn
  obtain ⟨Vs, h1, h2, h3⟩ := resVs_ok hE h hvs
  have hrun : (results fn a.tmps).run P w = .ok (if h : Vs.toArray.size = 1 then Vs.toArray[0] else .tuple Vs.toArray) w := by
    have e : results fn a.tmps = (do let vs ← fn.results.mapM (resRun a.tmps); pure (if h : vs.size = 1 then vs[0] else .tuple vs)) := by
      unfold results
      rfl
    rw [e, Array.mapM_eq_mapM_toList]
    simp only [Sem.run_bind, Sem.run_map, Result.andThen_ok, h1, Sem.run_pure]
  refine ⟨_, hrun, fun k => ∃ s ∈ locsT vs, F s k, ?_, fun k ⟨s, _, hs⟩ => ⟨s, hs⟩⟩
  split at hk
  · rename_i xs y
    have hx : ∃ x, xs = [x] := by
      simp [wellT] at hw
      match xs, hw with
      | [x], _ => exact ⟨x, rfl⟩
    obtain ⟨x, rfl⟩ := hx
    match Vs, h2 with
    | [v], h2 =>
      have := closeAV_ok h h2.1.1 hk.1
      simp only [locsT, List.append_nil]
      exact ⟨this, h2.1.2⟩
  · rename_i xs ys
    match Vs, h2 with
    | [.agg us], h2 =>
      simp only [locsT, List.append_nil] at hn ⊢
      exact closeL_ok h hn h2.1 hk
  · match Vs, h2 with
    | [], h2 => exact closeTs_ok h hn hw h2 hk
  · rename_i x y l ts
    have hlen : Vs.length ≠ 1 := by
      have : ∀ {xs : List (Bool × List AV)} {Vs : List Value}, RTs c w xs Vs → xs.length = Vs.length := by
        intro xs
        induction xs with
        | nil => intro Vs h; cases Vs with | nil => rfl | cons => exact h.elim
        | cons t xs ih =>
          intro Vs h
          match t, Vs, h with
          | (false, [x]), v :: vs, h => simp [ih h.2]
          | (true, ys), .agg us :: vs, h => simp [ih h.2]
      rw [← this h2]; simp
    rw [dif_neg (by simpa using hlen)]
    exact closeTs_ok h hn hw h2 hk
  · exact hk.elim

def AS.init (args : List T) : AS := ⟨fun t => args.getD t .dead, fun _ => none⟩

/-- THE RULE OF A FUNCTION. -/
theorem fun1_of_vc {E : Tab} (hE : E.ok P) {f : FuncId} {fn : Func} {x : Code} {args : List T} {r : T} (hmix : P.follows .mixedOrders = true) (hf : P.funcs[f]? = some fn) (hb : fn.body = some x) (hname : (fn.name == "runtime.NumGoroutine") = false)
    (hok : okCode E fn.ntmps x = true) (hlen : args.length ≤ fn.ntmps) (hnb : r.nb = true) (h : vcCode P E x (fin E fn.results.toList r) (fun _ _ => False) (fin E fn.results.toList r) (AS.init args)) : Fun1 P f args r := by
  refine ⟨⟨fn, hf, by simp [hb], hname⟩, hnb, fun w I vs hI hargs => ?_⟩
  have hvl : vs.toList.length = args.length := by
    have : ∀ {ts : List T} {us : List Value}, RTL (c0 I) w ts us → us.length = ts.length := by
      intro ts
      induction ts with
      | nil => intro us h; cases us with | nil => rfl | cons => exact h.elim
      | cons t ts ih => intro us h; cases us with | nil => exact h.elim | cons u us => simp [ih h.2]
    exact this hargs
  have hat : ∀ {ts : List T} {us : List Value}, RTL (c0 I) w ts us → ∀ t : Nat, RT (c0 I) w (ts.getD t .dead) (us.getD t undef) := by
    intro ts
    induction ts with
    | nil => intro us h t; trivial
    | cons t ts ih =>
      intro us h k
      cases us with
      | nil => exact h.elim
      | cons u us =>
        cases k with
        | zero => exact h.1
        | succ k => exact ih h.2 k
  refine calls_of_wp hf hb ?_
  have hH : H w (fun _ => False) fn.ntmps (AS.init args) { tmps := vs ++ Array.replicate (fn.ntmps - vs.size) undef, defers := [] } w (c0 I) (fun _ _ => False) := by
    have hvs : vs.size = args.length := by simpa using hvl
    refine { keeps := ⟨rfl, rfl, rfl, Nat.le_refl _, fun _ _ _ => rfl⟩, size := by simp; omega, defers := rfl, tm := fun t => ?_, mem := fun s k hk => (by cases hk), dom := fun s _ => ⟨rfl, fun k h => h⟩, disj := fun _ _ _ h => h.elim, new := fun _ _ h => h.elim, imm := hI, inn := fun _ _ h => h.elim, par := fun s v x hk => (by cases hk) }
    have := hat hargs t
    by_cases ht : t < vs.size
    · have e : (vs ++ Array.replicate (fn.ntmps - vs.size) undef).getD t undef = vs.toList.getD t undef := by
        rw [Array.getD_eq_getD_getElem?, Array.getElem?_append_left ht]
        simp
      rw [e]; exact this
    · have e : args.getD t .dead = .dead := by rw [List.getD_eq_getElem?_getD, List.getElem?_eq_none (by omega)]; rfl
      show RT _ _ (args.getD t .dead) _
      rw [e]; trivial
  have done : ∀ σ' a' w', Holds w (fun _ => False) fn.ntmps σ' a' w' → fin E fn.results.toList r σ' → a'.defers = [] ∧ ∃ V, (results fn a'.tmps).run P w' = .ok V w' ∧ ∃ v F, Ending.returned V = .returned v ∧ ROT' (c0 I) w' F r v ∧ (∀ k, F k → w.heap.size ≤ k ∧ k < w'.heap.size) ∧ Below w.heap.size w w' := by
    rintro σ' a' w' ⟨c', F', h'⟩ hf'
    obtain ⟨V, h1, G, h2, h3⟩ := fin_ok hE h' hf'
    refine ⟨h'.defers, V, h1, V, G, rfl, h2.nb hnb, fun k hk => ?_, ⟨h'.keeps.os, h'.keeps.tape, h'.keeps.output, h'.keeps.size, fun k hk => h'.keeps.block k hk (fun h => h)⟩⟩
    obtain ⟨s, hs⟩ := h3 k hk
    have := h'.new s k hs
    exact ⟨this.1.resolve_right (fun h => h), this.2⟩
  exact vc_ok hE hmix x (n := fn.ntmps) (w0 := w) (L := fun _ => False) hok (fun σ' a' w' h1 h2 => done σ' a' w' h1 h2) (fun _ _ _ _ _ h => h.elim) (fun σ' a' w' h1 h2 => done σ' a' w' h1 h2) h ⟨_, _, hH⟩
end
end Go.Proofs.Ytlijeincckbdaaa
