/- The abstract machine: the rule of a function that writes into what it is lent. -/
import Derived.Test.YtlijeincckbdaaaA17
namespace Go.Proofs.Ytlijeincckbdaaa
open Go.RowKit
set_option linter.unusedSimpArgs false
set_option linter.unusedVariables false

def memI (at_ : Nat → SI) (bs : List (Nat × List (List AV))) (s : Nat) : Option Blk :=
  match bs[s]? with
  | some b => some (.row true b.1 b.2)
  | none => if s < 8 then none else if s - 8 < bs.length then some (.pin (s - 8) (at_ (s - 8))) else none
def endM (at_ : Nat → SI) (σ : AS) : Nat → List (Nat × List (List AV)) → Prop
  | _, [] => True
  | i, b :: bs => (match σ.mem i with
    | some (.row true sz es) => sz = b.1 ∧ es = b.2
    | _ => False) ∧ σ.mem (i + 8) = some (.pin i (at_ i)) ∧ endM at_ σ (i + 1) bs
def finM (E : Tab) (rs : List ResultVar) (at_ : Nat → SI) (bs' : List (Nat × List (List AV))) (r : Value) (σ : AS) : Prop :=
  match resVs E σ rs with
  | some [(false, [.lit v])] => r = v ∧ endM at_ σ 0 bs'
  | _ => False
theorem endM_at {at_ : Nat → SI} {σ : AS} : ∀ {bs : List (Nat × List (List AV))} {k : Nat}, endM at_ σ k bs → ∀ {i : Nat} {b : Nat × List (List AV)}, bs[i]? = some b → σ.mem (k + i) = some (.row true b.1 b.2) ∧ σ.mem (k + i + 8) = some (.pin (k + i) (at_ (k + i)))
  | [], k, _, i, b, h => by simp at h
  | b' :: bs, k, h, 0, b, hb => by
    simp at hb; subst hb
    obtain ⟨h1, h2, _⟩ := h
    split at h1
    case h_2 => exact h1.elim
    rename_i sz es hm
    obtain ⟨rfl, rfl⟩ := h1
    exact ⟨hm, h2⟩
  | b' :: bs, k, h, i + 1, b, hb => by
    have := endM_at h.2.2 (i := i) (b := b) (by simpa using hb)
    rw [show k + (i + 1) = k + 1 + i by omega]
    exact this

theorem mutf_of_vc {P : Program} {E : Tab} (hE : E.ok P) {f : FuncId} {fn : Func} {x : Code} {args : List T} {bs bs' : List (Nat × List (List AV))} {r : Value} (hmix : P.follows .mixedOrders = true) (hf : P.funcs[f]? = some fn) (hb : fn.body = some x) (hname : (fn.name == "runtime.NumGoroutine") = false)
    (hok : okCode E fn.ntmps x = true) (hlen : args.length ≤ fn.ntmps) (hn8 : bs.length ≤ 8) (hnb : nbRows bs = true) (hnb' : nbRows bs' = true) (hbl : bs'.length = bs.length)
    (h : ∀ at_ : Nat → SI, vcCode P E x (finM E fn.results.toList at_ bs' r) (fun _ _ => False) (finM E fn.results.toList at_ bs' r) ⟨fun t => args.getD t .dead, memI at_ bs⟩) : MutF P f args bs bs' r := by
  refine ⟨⟨fn, hf, by simp [hb], hname⟩, hnb, hnb', hbl, fun w at_ F vs hargs hrow hdisj hF => ?_⟩
  have hvl : vs.toList.length = args.length := by
    have : ∀ {c : Ctx} {ts : List T} {us : List Value}, RTL c w ts us → us.length = ts.length := by
      intro c ts
      induction ts with
      | nil => intro us h; cases us with | nil => rfl | cons => exact h.elim
      | cons t ts ih => intro us h; cases us with | nil => exact h.elim | cons u us => simp [ih h.2]
    exact this hargs
  have hat : ∀ {c : Ctx} {ts : List T} {us : List Value}, RTL c w ts us → ∀ t : Nat, RT c w (ts.getD t .dead) (us.getD t undef) := by
    intro c ts
    induction ts with
    | nil => intro us h t; trivial
    | cons t ts ih =>
      intro us h k
      cases us with
      | nil => exact h.elim
      | cons u us =>
        cases k with
        | zero => exact h.1
        | succ k => exact ih h.2 k
  refine calls_of_wp hf hb ?_
  let c : Ctx := ⟨fun s => if s < bs.length then some (at_ s) else if s < 8 then none else if s - 8 < bs.length then some .nil else none, fun k => ∃ i, F i k ∧ ¬ (at_ i).isTop k⟩
  have hctop : ∀ s k, c.top s k ↔ s < bs.length ∧ (at_ s).isTop k := fun s k => by
    simp only [Ctx.top, c]
    by_cases hs : s < bs.length
    · simp only [if_pos hs, Option.some.injEq]
      cases at_ s with
      | var b => simp [SI.isTop, hs]; exact eq_comm
      | row b cap sz => simp [SI.isTop, hs]; exact eq_comm
      | nil => simp [SI.isTop]
    · simp only [if_neg hs]
      by_cases h8 : s < 8
      · simp [h8, hs]
      · by_cases h9 : s - 8 < bs.length
        · simp [h8, h9, hs]
        · simp [h8, h9, hs]
  have hH : H w (fun k => ∃ i, F i k) fn.ntmps ⟨fun t => args.getD t .dead, memI at_ bs⟩ { tmps := vs ++ Array.replicate (fn.ntmps - vs.size) undef, defers := [] } w c F := by
    have hvs : vs.size = args.length := by simpa using hvl
    refine { keeps := ⟨rfl, rfl, rfl, Nat.le_refl _, fun _ _ _ => rfl⟩, size := by simp; omega, defers := rfl, tm := fun t => ?_, mem := fun s k hk => ?_, dom := fun s hs => ?_, disj := hdisj, new := fun s k hk => ⟨.inr ⟨s, hk⟩, (hF s k hk).2⟩, imm := fun k ⟨i, hi, _⟩ => (hF i k hi).2, inn := fun s k hk => ?_, par := fun s v x hk => (by
      simp only [memI] at hk
      split at hk
      · cases hk
      · split at hk
        · cases hk
        · split at hk <;> cases hk) }
    · have := hat hargs t
      have h2 : RT c w (args.getD t .dead) (vs.toList.getD t undef) := this.mono (fun s i hi => by
        simp only [cAt] at hi
        split at hi
        · rename_i hs; simp only [c, if_pos hs]; exact hi
        · cases hi) (fun _ h => False.elim h) (fun _ h => False.elim h)
      by_cases ht : t < vs.size
      · have e : (vs ++ Array.replicate (fn.ntmps - vs.size) undef).getD t undef = vs.toList.getD t undef := by
          rw [Array.getD_eq_getD_getElem?, Array.getElem?_append_left ht]
          simp
        rw [e]; exact h2
      · have e : args.getD t .dead = .dead := by rw [List.getD_eq_getElem?_getD, List.getElem?_eq_none (by omega)]; rfl
        show RT _ _ (args.getD t .dead) _
        rw [e]; trivial
    · simp only [memI] at hk
      cases hq : bs[s]? with
      | some b =>
        rw [hq] at hk
        cases hk
        have hs := (List.getElem?_eq_some_iff.1 hq).1
        exact (hrow s b.1 b.2 hq).blk (nbRows_at hnb hq) (by simp only [c, if_pos hs])
      | none =>
        rw [hq] at hk
        have hs : ¬ s < bs.length := by simpa using hq
        simp only at hk
        split at hk
        · cases hk
        · rename_i h8
          split at hk
          · rename_i h9
            cases hk
            exact ⟨by simp only [c, if_neg hs, if_neg h8, if_pos h9], fun k hk => hs (hF s k hk).1, by simp only [c, if_pos h9]⟩
          · cases hk
    · simp only [memI] at hs
      cases hq : bs[s]? with
      | some b => rw [hq] at hs; cases hs
      | none =>
        rw [hq] at hs
        have hs' : ¬ s < bs.length := by simpa using hq
        refine ⟨?_, fun k hk => hs' (hF s k hk).1⟩
        simp only [c, if_neg hs']
        simp only at hs
        split at hs
        · rename_i h8; rw [if_pos h8]
        · rename_i h8
          split at hs
          · cases hs
          · rename_i h9; rw [if_neg h8, if_neg h9]
    · rw [hctop]
      constructor
      · rintro ⟨i, hi, ht⟩ ⟨_, h2⟩
        have := hdisj _ _ _ hi hk
        subst this
        exact ht h2
      · exact fun h1 => ⟨s, hk, fun ht => h1 ⟨(hF s k hk).1, ht⟩⟩
  have done : ∀ σ' a' w', Holds w (fun k => ∃ i, F i k) fn.ntmps σ' a' w' → finM E fn.results.toList at_ bs' r σ' → a'.defers = [] ∧ ∃ V, (results fn a'.tmps).run P w' = .ok V w' ∧ ∃ F' : Nat → Nat → Prop, Ending.returned V = .returned r ∧ (∀ i sz es, bs'[i]? = some (sz, es) → RowAt w' (at_ i) sz es (F' i)) ∧
      (∀ i j k, F' i k → F' j k → i = j) ∧ (∀ i k, F' i k → i < bs.length ∧ ((∃ j, F j k) ∨ w.heap.size ≤ k) ∧ k < w'.heap.size) ∧ Keeps (fun k => ∃ i, F i k) w w' := by
    rintro σ' a' w' ⟨c', F', h'⟩ hf'
    unfold finM at hf'
    split at hf'
    case h_2 => exact hf'.elim
    rename_i v hv
    obtain ⟨rfl, hend⟩ := hf'
    obtain ⟨Vs, h1, h2, h3⟩ := resVs_ok hE h' hv
    have hrun : (results fn a'.tmps).run P w' = .ok (if h : Vs.toArray.size = 1 then Vs.toArray[0] else .tuple Vs.toArray) w' := by
      have e : results fn a'.tmps = (do let vs ← fn.results.mapM (resRun a'.tmps); pure (if h : vs.size = 1 then vs[0] else .tuple vs)) := by
        unfold results
        rfl
      rw [e, Array.mapM_eq_mapM_toList]
      simp only [Sem.run_bind, Sem.run_map, Result.andThen_ok, h1, Sem.run_pure]
    refine ⟨h'.defers, _, hrun, fun i k => i < bs.length ∧ F' i k, ?_, fun i sz es hb => ?_, fun i j k h4 h5 => h'.disj _ _ _ h4.2 h5.2, fun i k hk => ⟨hk.1, (h'.new i k hk.2).1.symm.imp id id, (h'.new i k hk.2).2⟩, h'.keeps⟩
    · match Vs, h2 with
      | [u], h2 =>
        have h4 := h2.1.1
        cases h4
        rfl
    · have hil : i < bs.length := by rw [← hbl]; exact (List.getElem?_eq_some_iff.1 hb).1
      obtain ⟨h4, h5⟩ := endM_at hend hb
      rw [Nat.zero_add] at h4 h5
      obtain ⟨j, h6, h7⟩ := (h'.mem i _ h4).rowAt (nbRows_at hnb' hb)
      have h8 := (h'.mem (i + 8) _ h5).2.2
      rw [h6] at h8
      cases h8
      show RowAt w' (at_ i) sz es (fun k => i < bs.length ∧ F' i k)
      rw [show (fun k => i < bs.length ∧ F' i k) = F' i from funext fun k => propext (and_iff_right hil)]
      exact h7
  exact vc_ok hE hmix x (n := fn.ntmps) (w0 := w) (L := fun k => ∃ i, F i k) hok (fun σ' a' w' h1 h2 => done σ' a' w' h1 h2) (fun _ _ _ _ _ h => h.elim) (fun σ' a' w' h1 h2 => done σ' a' w' h1 h2) (h at_) ⟨_, _, hH⟩

theorem all_nil {α : Type} {Q : α → Prop} : ∀ p ∈ ([] : List α), Q p := fun p h => by cases h
theorem all_cons {α : Type} {Q : α → Prop} {a : α} {l : List α} (h : Q a) (h' : ∀ p ∈ l, Q p) : ∀ p ∈ a :: l, Q p := fun p hp => by
  cases hp with
  | head => exact h
  | tail _ hp => exact h' p hp
theorem ren_lit {ss : List Nat} {u v : Value} (h : u = v) : RenA ss (.lit v) (.lit u) := h
theorem ren_loc {ss : List Nat} {i s o l l' : Nat} (h : ss[i]? = some s) (hl : l' = l) : RenA ss (.loc i o l) (.loc s o l') := ⟨h, rfl, hl⟩
end Go.Proofs.Ytlijeincckbdaaa
