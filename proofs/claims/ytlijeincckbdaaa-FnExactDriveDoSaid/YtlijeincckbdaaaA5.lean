/- The abstract machine: the operations that compute. -/
import Derived.Test.YtlijeincckbdaaaA4
import Derived.Lib.SliceRun
import Derived.Laws.Cover3
namespace Go.Proofs.Ytlijeincckbdaaa
open Go.RowKit
set_option linter.unusedSimpArgs false
set_option linter.unusedVariables false

section
variable {P : Program} {w0 w : World} {L : Nat → Prop} {n : Nat} {σ : AS} {a : Act} {c : Ctx} {F : Nat → Nat → Prop} {K : T → News → Prop}

theorem toList_beq (a b : ByteArray) : (a.toList == b.toList) = decide (a = b) := by
  rw [ByteArray.toList_eq, ByteArray.toList_eq]
  rw [Bool.eq_iff_iff]
  simp only [beq_iff_eq, decide_eq_true_eq]
  constructor
  · intro h
    cases a; cases b
    simp at h
    simp [h]
  · rintro rfl; rfl

theorem one_lit {v V : Value} (h : RT c w (.one (.lit v)) V) : V = v := by
  obtain ⟨h, _⟩ := h
  cases h; rfl

theorem RT_lit (v : Value) (h : v.oneCell' = true) : RT c w (.one (.lit v)) v := ⟨.lit v, h⟩

theorem opIndex_ok {E : Tab} (hE : E.ok P) {t : TypeId} {x i : T} {X I : Value} (hX : RT c w x X) (hI : RT c w i I) (hk : opIndex E K t x i) :
    ∃ v V, K v [] ∧ (Instr.index t X I).run P w = .ok V w ∧ RT c w v V := by
  unfold opIndex at hk
  split at hk
  case h_2 => exact hk.elim
  rename_i s ik m hs
  obtain ⟨qn, rfl, h1, hk⟩ := hk
  obtain rfl := one_lit hX
  obtain rfl := one_lit hI
  have hu : P.underlying t = some .string := Tab.str_ok hE hs
  refine ⟨_, _, hk, ?_, RT_lit _ rfl⟩
  simp [Instr.index, asIntOf, run_underlying hu, h1]
  congr 1

theorem optInt_some {o : Option T} {x : Option Int} (h : optInt o = some x) : (o = none ∧ x = none) ∨ ∃ k n, o = some (.one (.lit (.int k n))) ∧ x = some n := by
  unfold optInt at h
  split at h
  · cases h; exact .inl ⟨rfl, rfl⟩
  · cases h; exact .inr ⟨_, _, rfl, rfl⟩
  · cases h

/-- An operand that may be missing. -/
def ROT (c : Ctx) (w : World) : Option T → Option Value → Prop
  | none, none => True
  | some t, some v => RT c w t v
  | _, _ => False

theorem optInt_val {o : Option T} {x : Option Int} (h : optInt o = some x) {O : Option Value} (hO : ROT c w o O) : (O = none ∧ x = none) ∨ ∃ k n, O = some (.int k n) ∧ x = some n := by
  rcases optInt_some h with ⟨rfl, rfl⟩ | ⟨k, n, rfl, rfl⟩
  · cases O with
    | none => exact .inl ⟨rfl, rfl⟩
    | some v => exact hO.elim
  · cases O with
    | none => exact hO.elim
    | some v => exact .inr ⟨k, n, by rw [one_lit hO], rfl⟩

theorem run_bounds {len cap : Nat} {lo hi : Option Value} {l h : Option Int} (hl : (lo = none ∧ l = none) ∨ ∃ k n, lo = some (.int k n) ∧ l = some n) (hh : (hi = none ∧ h = none) ∨ ∃ k n, hi = some (.int k n) ∧ h = some n)
    (h0 : 0 ≤ l.getD 0) (h1 : l.getD 0 ≤ h.getD len) (h2 : h.getD len ≤ (len : Int)) (hc : len ≤ cap) (g : Bool) (w : World) :
    (Instr.sliceBounds g len cap lo hi none).run P w = .ok ((l.getD 0).toNat, (h.getD len).toNat, cap) w := by
  rcases hl with ⟨rfl, rfl⟩ | ⟨k, m, rfl, rfl⟩ <;> rcases hh with ⟨rfl, rfl⟩ | ⟨k', m', rfl, rfl⟩
  · simp [Instr.sliceBounds]
  · have e1 : (0 : Int) ≤ m' := by simpa using h1
    have e2 : m' ≤ (cap : Int) := by simp at h2; omega
    simp [Instr.sliceBounds, run_sliceBound, e1, e2]
  · have e1 : (0 : Int) ≤ m := by simpa using h0
    have e2 : m ≤ (len : Int) := by simpa using h1
    simp [Instr.sliceBounds, run_sliceBound, e1, e2]
  · have e1 : (0 : Int) ≤ m := by simpa using h0
    have e2 : m ≤ m' := by simpa using h1
    have e3 : m' ≤ (cap : Int) := by simp at h2; omega
    have e4 : (0 : Int) ≤ m' := by omega
    have e5 : m ≤ ((m'.toNat : Nat) : Int) := by omega
    simp only [Instr.sliceBounds, Sem.run_bind, Sem.run_pure, Result.andThen_ok, run_sliceBound w k' m' cap _ e4 e3, Bool.false_eq_true, if_false, Option.isSome_none, run_sliceBound w k m m'.toNat _ e1 e5, Option.getD_some]

/-- .. in whatever world. -/
theorem opSlice_all {E : Tab} (hE : E.ok P) (h : H w0 L n σ a w c F) {m : Nat → Option Blk} (hm : Sup σ m) {t : TypeId} {x : T} {lo hi : Option T} {X : Value} {LO HI : Option Value} (hX : RT c w x X) (hlo : ROT c w lo LO) (hhi : ROT c w hi HI) (hk : opSlice E m K t x lo hi) :
    ∃ v V, K v [] ∧ (∀ w' : World, (Instr.sliceAt t X LO HI none).run P w' = .ok V w') ∧ RT c w v V := by
  unfold opSlice at hk
  split at hk
  case h_2 => exact hk.elim
  rename_i l hh hl1 hh1
  have hl2 := optInt_val hl1 hlo
  have hh2 := optInt_val hh1 hhi
  split at hk
  · rename_i hs
    have hu : P.underlying t = some .string := Tab.str_ok hE hs
    split at hk
    case h_2 => exact hk.elim
    rename_i s
    obtain ⟨h0, h1, h2, _, rfl, hk⟩ := hk
    obtain rfl := one_lit hX
    refine ⟨_, _, hk, ?_, RT_lit _ rfl⟩
    intro w'
    simp [run_sliceAt_string, hu, Instr.slice, run_underlying hu, run_bounds hl2 hh2 h0 h1 h2 (Nat.le_refl _)]
  · split at hk
    case h_2 => exact hk.elim
    rename_i e sz by_ he
    replace he := Tab.el_ok hE he
    obtain ⟨inf, hu, hi', rfl, _, hne⟩ := elI_some he
    have hsl : ∀ (lo hi mx : Option Value) (X : Value) (w' : World), (Instr.sliceAt t X lo hi mx).run P w' = (Instr.slice t X lo hi mx).run P w' := fun lo hi mx X w' => by simp [Instr.sliceAt, run_underlying hu]
    split at hk
    · rename_i s off len
      obtain ⟨h0, h1, h2, hk⟩ := hk
      split at hk
      case h_2 => exact hk.elim
      rename_i p rz es hs
      split at hk
      case isFalse => exact hk.elim
      rename_i hrz
      subst hrz
      obtain ⟨_, _, rfl, rfl, hk⟩ := hk
      obtain ⟨hX, _⟩ := hX
      cases hX with
      | locnil hn =>
        have e1 : l.getD 0 = 0 := by simp at h1 h2; omega
        have e2 : hh.getD ((0 : Nat) : Int) = 0 := by simp at h1 h2 ⊢; omega
        refine ⟨_, .slice none 0 0, hk, ?_, ?_⟩
        · intro w'
          rw [hsl]
          have e3 : hh.getD 0 = 0 := e2
          simp [Instr.slice, run_underlying hu, run_bounds hl2 hh2 h0 h1 h2 (Nat.le_refl _), run_sizeOf hi', e1, e3]
        · rw [e1, e2]
          exact ⟨.locnil hn, rfl⟩
      | @loc _ _ _ b cap sz A hat hle hA =>
        have hb := h.mem s _ (h.look hm hat hs)
        have hsz : sz = inf.size := by
          rcases hb with ⟨h1, _⟩ | ⟨b', cap', h1, _⟩ <;> rw [hat] at h1 <;> cases h1
          rfl
        subst hsz
        have e1 : ((l.getD 0).toNat : Int) = l.getD 0 := Int.toNat_of_nonneg h0
        have e2 : ((hh.getD (len : Int)).toNat : Int) = hh.getD (len : Int) := Int.toNat_of_nonneg (by omega)
        refine ⟨_, .slice (if cap - off = (l.getD 0).toNat then A else A.map (·.add ((l.getD 0).toNat * inf.size))) ((hh.getD (len : Int)).toNat - (l.getD 0).toNat) (cap - off - (l.getD 0).toNat), hk, ?_, ?_⟩
        · intro w'
          rw [hsl]
          simp only [Instr.slice, Sem.run_bind, run_underlying hu, Result.andThen_ok, run_bounds (cap := cap - off) hl2 hh2 h0 h1 h2 (by omega), run_sizeOf hi', Sem.run_pure]
        · refine ⟨?_, rfl⟩
          rw [show cap - off - (l.getD 0).toNat = cap - (off + (l.getD 0).toNat) by omega]
          refine .loc hat (by omega) fun hlt => ?_
          rw [if_neg (by omega)]
          rw [hA (by omega)]
          have hadd : (⟨b, off * inf.size, none⟩ : Addr).add ((l.getD 0).toNat * inf.size) = ⟨b, (off + (l.getD 0).toNat) * inf.size, none⟩ := by
            rw [Nat.add_mul]; unfold Addr.add; split <;> simp_all
          simp [hadd]
    · rename_i own rz es
      obtain ⟨h0, h1, h2, hk⟩ := hk
      split at hk
      case isFalse => exact hk.elim
      rename_i hrz
      subst hrz
      obtain ⟨_, rfl, hk⟩ := hk
      obtain ⟨hX, _⟩ := hX
      cases hX with
      | @row _ _ _ A cap b o vals a1 a2 a3 a4 a0 a5 a6 a7 =>
        have e1 : ((l.getD 0).toNat : Int) = l.getD 0 := Int.toNat_of_nonneg h0
        have e2 : ((hh.getD (es.length : Int)).toNat : Int) = hh.getD (es.length : Int) := Int.toNat_of_nonneg (by omega)
        refine ⟨_, .slice (if cap = (l.getD 0).toNat then A else A.map (·.add ((l.getD 0).toNat * inf.size))) ((hh.getD (es.length : Int)).toNat - (l.getD 0).toNat) (cap - (l.getD 0).toNat), hk, ?_, ?_⟩
        · intro w'
          rw [hsl]
          simp only [Instr.slice, Sem.run_bind, run_underlying hu, Result.andThen_ok, run_bounds (cap := cap) hl2 hh2 h0 h1 h2 a1, run_sizeOf hi', Sem.run_pure]
        · refine ⟨?_, rfl⟩
          have hel : ∀ (i j : Nat) (x : AV), elt (List.take ((hh.getD (es.length : Int)).toNat - (l.getD 0).toNat) (List.drop (l.getD 0).toNat es)) i j = some x → elt es ((l.getD 0).toNat + i) j = some x := fun i j x hx => by
            unfold elt at hx ⊢
            rw [List.getElem?_take] at hx
            split at hx
            · rwa [List.getElem?_drop] at hx
            · simp at hx
          have hlen : (hh.getD (es.length : Int)).toNat - (l.getD 0).toNat = (List.take ((hh.getD (es.length : Int)).toNat - (l.getD 0).toNat) (List.drop (l.getD 0).toNat es)).length := by
            rw [List.length_take, List.length_drop]; omega
          have key := R.row (c := c) (w := w) (own := false) (sz := inf.size) (es := List.take ((hh.getD (es.length : Int)).toNat - (l.getD 0).toNat) (List.drop (l.getD 0).toNat es)) (A := if cap = (l.getD 0).toNat then A else A.map (·.add ((l.getD 0).toNat * inf.size))) (cap := cap - (l.getD 0).toNat) b (o + (l.getD 0).toNat * inf.size) (fun i j => vals ((l.getD 0).toNat + i) j)
            (by rw [← hlen]; omega) (by omega) (fun hlt => by
              rw [← hlen] at hlt
              obtain ⟨rfl, hI⟩ := a3 (by omega)
              refine ⟨?_, hI⟩
              rw [if_neg (by omega)]
              exact congrArg some (Addr.add_lit b o _)) (fun e he => a4 e (List.mem_of_mem_drop (List.mem_of_mem_take he))) (fun i j x hx => a0 _ _ _ (hel i j x hx))
            (fun i j x hx => by have := a5 _ _ _ (hel i j x hx); rw [Nat.add_mul] at this; rw [← this]; congr 2; omega) (fun i j x hx => a6 _ _ _ (hel i j x hx)) (fun i j x hx => a7 _ _ _ (hel i j x hx))
          rw [← hlen] at key
          exact key
    · exact hk.elim
  · exact hk.elim
theorem opSlice_ok {E : Tab} (hE : E.ok P) (h : H w0 L n σ a w c F) {m : Nat → Option Blk} (hm : Sup σ m) {t : TypeId} {x : T} {lo hi : Option T} {X : Value} {LO HI : Option Value} (hX : RT c w x X) (hlo : ROT c w lo LO) (hhi : ROT c w hi HI) (hk : opSlice E m K t x lo hi) :
    ∃ v V, K v [] ∧ (Instr.sliceAt t X LO HI none).run P w = .ok V w ∧ RT c w v V :=
  let ⟨v, V, h1, h2, h3⟩ := opSlice_all hE h hm hX hlo hhi hk
  ⟨v, V, h1, h2 w, h3⟩

theorem opBin_all {E : Tab} (hE : E.ok P) {op : BinOp} {t : TypeId} {x y : T} {X Y : Value} (hX : RT c w x X) (hY : RT c w y Y) (hk : opBin E K op t x y) :
    ∃ v V, K v [] ∧ (∀ w' : World, (binOp op t X Y).run P w' = .ok V w') ∧ RT c w v V := by
  unfold opBin at hk
  split at hk
  · obtain rfl := one_lit hX
    obtain rfl := one_lit hY
    split at hk
    · obtain ⟨h0, _, rfl, hk⟩ := hk
      have h0 := Int.not_lt.2 h0
      exact ⟨_, _, hk, fun w' => by simp [binOp, Op.shift, h0], RT_lit _ rfl⟩
    · obtain ⟨h0, _, rfl, hk⟩ := hk
      have h0 := Int.not_lt.2 h0
      exact ⟨_, _, hk, fun w' => by simp [binOp, Op.shift, h0], RT_lit _ rfl⟩
    split at hk
    case isFalse => exact hk.elim
    rename_i hkk
    subst hkk
    split at hk
    · obtain ⟨_, rfl, hk⟩ := hk; exact ⟨_, _, hk, fun w' => by simp [binOp, Op.intArith], RT_lit _ rfl⟩
    · obtain ⟨_, rfl, hk⟩ := hk; exact ⟨_, _, hk, fun w' => by simp [binOp, Op.intArith], RT_lit _ rfl⟩
    · obtain ⟨_, rfl, hk⟩ := hk; exact ⟨_, _, hk, fun w' => by simp [binOp, Op.intArith], RT_lit _ rfl⟩
    · obtain ⟨h0, _, rfl, hk⟩ := hk; exact ⟨_, _, hk, fun w' => by simp [binOp, Op.intDiv, h0], RT_lit _ rfl⟩
    · obtain ⟨h0, _, rfl, hk⟩ := hk; exact ⟨_, _, hk, fun w' => by simp [binOp, Op.intDiv, h0], RT_lit _ rfl⟩
    all_goals (try exact hk.elim)
    all_goals (refine ⟨_, _, hk, ?_, RT_lit _ rfl⟩; intro w')
    all_goals first
      | (simp [binOp, Op.intArith]; done)
      | (simp [binOp, Op.intBits, bits]; done)
      | (simp [binOp, Op.intCmp]; done)
      | (simp only [binOp, Op.intCmp, ne_eq, not_true_eq_false, if_false, Sem.run_pure]; congr 2; (try rfl); (try (rw [Bool.eq_iff_iff]; simp)))
  · obtain rfl := one_lit hX
    obtain rfl := one_lit hY
    split at hk
    · obtain ⟨h0, hk⟩ := hk
      exact ⟨_, _, hk, fun w' => by simp only [binOp]; exact run_string_add_sum w' _ _ h0, RT_lit _ rfl⟩
    all_goals first
      | exact hk.elim
      | (refine ⟨_, _, hk, ?_, RT_lit _ rfl⟩; intro w'; simp [binOp, Op.stringOp, toList_beq, sless]; done)
  · obtain rfl := one_lit hY
    obtain ⟨hX, _⟩ := hX
    cases hX with | nn hX =>
    split at hk
    · rename_i hs; obtain ⟨e, hu⟩ := Tab.sl_ok hE hs
      exact ⟨_, _, hk, fun w' => by rw [Go.Lib.run_eql_slice_nil w' t e _ _ _ _ _ hu]; rfl, RT_lit _ rfl⟩
    · rename_i hs; obtain ⟨e, hu⟩ := Tab.sl_ok hE hs
      exact ⟨_, _, hk, fun w' => by rw [run_neq_slice_nil w' t e _ _ _ hu]; rfl, RT_lit _ rfl⟩
    · exact hk.elim
  · obtain rfl := one_lit hX
    obtain rfl := one_lit hY
    split at hk
    · rename_i hs; obtain ⟨e, hu⟩ := Tab.sl_ok hE hs
      exact ⟨_, _, hk, fun w' => by rw [Go.Lib.run_eql_slice_nil w' t e _ _ _ _ _ hu]; rfl, RT_lit _ rfl⟩
    · rename_i hs; obtain ⟨e, hu⟩ := Tab.sl_ok hE hs
      exact ⟨_, _, hk, fun w' => by rw [run_neq_slice_nil w' t e _ _ _ hu]; rfl, RT_lit _ rfl⟩
    · exact hk.elim
  · obtain rfl := one_lit hX
    obtain rfl := one_lit hY
    split at hk
    case h_2 => exact hk.elim
    rename_i hu
    replace hu := Tab.bool_ok hE hu
    split at hk
    · exact ⟨_, _, hk, fun w' => run_eql_bool w' t _ _ hu, RT_lit _ rfl⟩
    · exact ⟨_, _, hk, fun w' => run_neq_bool w' t _ _ hu, RT_lit _ rfl⟩
    · exact hk.elim
  · exact hk.elim

theorem opBin_ok {E : Tab} (hE : E.ok P) {op : BinOp} {t : TypeId} {x y : T} {X Y : Value} (hX : RT c w x X) (hY : RT c w y Y) (hk : opBin E K op t x y) :
    ∃ v V, K v [] ∧ (binOp op t X Y).run P w = .ok V w ∧ RT c w v V :=
  let ⟨v, V, h1, h2, h3⟩ := opBin_all hE hX hY hk
  ⟨v, V, h1, h2 w, h3⟩

theorem opUn_all {op : UnOp} {x : T} {X : Value} (hX : RT c w x X) (hk : opUn K op x) :
    ∃ v V, K v [] ∧ (∀ w' : World, (Op.unary op X).run P w' = .ok V w') ∧ RT c w v V := by
  unfold opUn at hk
  split at hk
  · obtain rfl := one_lit hX
    exact ⟨_, _, hk, fun w' => rfl, RT_lit _ rfl⟩
  · obtain rfl := one_lit hX
    obtain ⟨_, rfl, hk⟩ := hk
    exact ⟨_, _, hk, fun w' => rfl, RT_lit _ rfl⟩
  · obtain rfl := one_lit hX
    exact ⟨_, _, hk, fun w' => rfl, RT_lit _ rfl⟩
  · exact hk.elim

theorem opUn_ok {op : UnOp} {x : T} {X : Value} (hX : RT c w x X) (hk : opUn K op x) :
    ∃ v V, K v [] ∧ (Op.unary op X).run P w = .ok V w ∧ RT c w v V :=
  let ⟨v, V, h1, h2, h3⟩ := opUn_all hX hk
  ⟨v, V, h1, h2 w, h3⟩

theorem opConv_ok {E : Tab} (hE : E.ok P) {src dst : TypeId} {x : T} {X : Value} (hX : RT c w x X) (hk : opConv E K src dst x) :
    ∃ v V, K v [] ∧ (convert src dst X).run P w = .ok V w ∧ RT c w v V := by
  unfold opConv at hk
  split at hk
  · obtain rfl := one_lit hX
    split at hk
    case h_2 => exact hk.elim
    rename_i k _ hi hs
    obtain ⟨_, rfl, hk⟩ := hk
    have hu : P.underlying dst = some (.int k) := Tab.int_ok hE hi
    replace hs := Tab.some_ok hE hs
    obtain ⟨d, hd'⟩ := Option.isSome_iff_exists.mp hs
    exact ⟨_, _, hk, by simp [convert, run_underlying hd', run_underlying hu, Conv.intToInt], RT_lit _ rfl⟩
  · obtain rfl := one_lit hX
    split at hk
    case h_2 => exact hk.elim
    rename_i _ hi hs
    have hu : P.underlying dst = some .string := Tab.str_ok hE hi
    replace hs := Tab.some_ok hE hs
    obtain ⟨d, hd'⟩ := Option.isSome_iff_exists.mp hs
    exact ⟨_, _, hk, by simp [convert, run_underlying hd', run_underlying hu], RT_lit _ rfl⟩
  · exact hk.elim

theorem opExtract_all {i : Nat} {x : T} {X : Value} (hX : RT c w x X) (hk : opExtract K x i) :
    ∃ v V, K v [] ∧ (∀ w' : World, (Instr.extract X i).run P w' = .ok V w') ∧ RT c w v V := by
  unfold opExtract at hk
  split at hk
  case h_2 => exact hk.elim
  rename_i ts
  cases X with
  | tuple vs =>
    have hR : RTs c w ts vs.toList := hX
    have key : ∀ (ts : List (Bool × List AV)) (vs : List Value), RTs c w ts vs → ∀ i : Nat, (∀ y, ts[i]? = some (false, [y]) → ∃ v, vs[i]? = some v ∧ R c w y v ∧ v.oneCell' = true) ∧ (∀ ys, ts[i]? = some (true, ys) → ∃ us : Array Value, vs[i]? = some (Value.agg us) ∧ RL c w ys us.toList) := by
      intro ts
      induction ts with
      | nil => intro vs _ i; simp
      | cons t ts ih =>
        intro vs h i
        match t, vs, h with
        | (false, [x]), v :: vs, h =>
          cases i with
          | zero => exact ⟨fun y hy => by simp at hy; subst hy; exact ⟨v, rfl, h.1⟩, fun ys hy => by simp at hy⟩
          | succ i => simpa using ih vs h.2 i
        | (true, ys), .agg us :: vs, h =>
          cases i with
          | zero => exact ⟨fun y hy => by simp at hy, fun ys' hy => by simp at hy; subst hy; exact ⟨us, rfl, h.1⟩⟩
          | succ i => simpa using ih vs h.2 i
    split at hk
    · rename_i y hy
      obtain ⟨v, hv, h1⟩ := (key ts _ hR i).1 y hy
      have hv' : vs[i]? = some v := by simpa using hv
      exact ⟨_, _, hk, fun w' => by simp [Instr.extract, hv'], h1⟩
    · rename_i ys hy
      obtain ⟨v, hv, h1⟩ := (key ts _ hR i).2 ys hy
      have hv' : vs[i]? = some (.agg v) := by simpa using hv
      exact ⟨_, .agg v, hk, fun w' => by simp [Instr.extract, hv'], h1⟩
    · exact hk.elim
  | _ => exact hX.elim

theorem opExtract_ok {i : Nat} {x : T} {X : Value} (hX : RT c w x X) (hk : opExtract K x i) :
    ∃ v V, K v [] ∧ (Instr.extract X i).run P w = .ok V w ∧ RT c w v V :=
  let ⟨v, V, h1, h2, h3⟩ := opExtract_all hX hk
  ⟨v, V, h1, h2 w, h3⟩

theorem opLen_ok {E : Tab} (hE : E.ok P) {t ty : TypeId} {x : T} {X : Value} (hX : RT c w x X) (hk : opLen E K t x) :
    ∃ v V, K v [] ∧ (Builtin.len_ #[t] ty #[X]).run P w = .ok V w ∧ RT c w v V := by
  unfold opLen at hk
  split at hk
  · rename_i hi
    obtain rfl := one_lit hX
    have hu := Tab.str_ok hE hi
    exact ⟨_, _, hk, by simp [Builtin.len_, run_underlying hu, goInt], RT_lit _ rfl⟩
  · rename_i hi
    obtain ⟨e, hu⟩ := Tab.sl_ok hE hi
    obtain ⟨hX, _⟩ := hX
    cases hX with
    | loc => exact ⟨_, _, hk, by simp [Builtin.len_, run_underlying hu, goInt], RT_lit _ rfl⟩
    | locnil => exact ⟨_, _, hk, by simp [Builtin.len_, run_underlying hu, goInt], RT_lit _ rfl⟩
  · rename_i hi
    obtain ⟨e, hu⟩ := Tab.sl_ok hE hi
    obtain ⟨hX, _⟩ := hX
    cases hX with
    | row => exact ⟨_, _, hk, by simp [Builtin.len_, run_underlying hu, goInt], RT_lit _ rfl⟩
  · rename_i hi
    obtain ⟨e, hu⟩ := Tab.sl_ok hE hi
    obtain ⟨hX, _⟩ := hX
    cases hX with | nn hX =>
    cases hX with
    | row => exact ⟨_, _, hk, by simp [Builtin.len_, run_underlying hu, goInt], RT_lit _ rfl⟩
  · rename_i hi
    obtain ⟨e, hu⟩ := Tab.sl_ok hE hi
    obtain rfl := one_lit hX
    exact ⟨_, _, hk, by simp [Builtin.len_, run_underlying hu, goInt], RT_lit _ rfl⟩
  · exact hk.elim

theorem opMinMax_ok {mx : Bool} {x y : T} {ts : Array TypeId} {ty : TypeId} {X Y : Value} (hX : RT c w x X) (hY : RT c w y Y) (hk : opMinMax K mx x y) :
    ∃ v V, K v [] ∧ (if mx then Builtin.max_ ts ty #[X, Y] else Builtin.min_ ts ty #[X, Y]).run P w = .ok V w ∧ RT c w v V := by
  unfold opMinMax at hk
  split at hk
  case h_2 => exact hk.elim
  obtain rfl := one_lit hX
  obtain rfl := one_lit hY
  cases mx with
  | true =>
    refine ⟨_, _, hk, ?_, RT_lit _ rfl⟩
    simp only [if_true, run_max_int2]
    congr 2
    omega
  | false =>
    refine ⟨_, _, hk, ?_, RT_lit _ rfl⟩
    simp only [Bool.false_eq_true, if_false, run_min_int2]
    congr 2
    omega

theorem opNilCheck_ok {x : T} {X : Value} (hX : RT c w x X) (hk : opNilCheck K x) : ∃ v, K v [] ∧ RT c w v X ∧ ((∃ p, X = .pointer (some p)) ∨ ∃ f cs, X = .func (.func f) #[] cs) := by
  unfold opNilCheck at hk
  split at hk
  · exact ⟨_, hk, hX, by obtain ⟨hX, _⟩ := hX; cases hX; exact .inl ⟨_, rfl⟩⟩
  · exact ⟨_, hk, hX, by obtain ⟨hX, _⟩ := hX; cases hX; exact .inl ⟨_, rfl⟩⟩
  · exact ⟨_, hk, hX, by obtain ⟨hX, _⟩ := hX; cases hX; exact .inl ⟨_, rfl⟩⟩
  · exact ⟨_, hk, hX, by obtain ⟨hX, _⟩ := hX; cases hX; exact .inr ⟨_, _, rfl⟩⟩
  · exact hk.elim

/-- Operands side by side. -/
def RTL (c : Ctx) (w : World) : List T → List Value → Prop
  | [], [] => True
  | t :: ts, v :: vs => RT c w t v ∧ RTL c w ts vs
  | _, _ => False

theorem ones_ok : ∀ {ts : List T} {vs : List Value} {xs : List AV}, RTL c w ts vs → ones ts = some xs → RL c w xs vs
  | [], [], _, _, h => by simp [ones] at h; subst h; trivial
  | .one x :: ts, v :: vs, xs, hR, h => by
    simp only [ones] at h
    cases ho : ones ts with
    | none => simp [ho] at h
    | some ys => simp [ho] at h; subst h; exact ⟨hR.1, ones_ok hR.2 ho⟩

theorem RL.ones : ∀ {xs : List AV} {vs : List Value}, RL c w xs vs → ∀ v ∈ vs, v.oneCell' = true
  | [], [], _, v, hv => by cases hv
  | _ :: _, _ :: _, h, v, hv => by
    cases hv with
    | head => exact h.1.2
    | tail _ hv => exact RL.ones h.2 v hv
theorem opMakeFunc_ok {fn : Fn} {ts : List T} {cs : List Value} (hX : RTL c w ts cs) {k : Nat} (hk : opMakeFunc K fn k ts) :
    ∃ v f, K v [] ∧ k = 0 ∧ fn = .func f ∧ RT c w v (.func (.func f) #[] cs.toArray) := by
  unfold opMakeFunc at hk
  split at hk
  case h_2 => exact hk.elim
  rename_i f xs hx
  have hR := ones_ok hX hx
  refine ⟨_, f, hk, rfl, rfl, .fn (by simp [hR.length]) (fun v hv => hR.ones v (by simpa using hv)) (fun i x v hx hv => (hR.at hx (by simpa using hv)).1), rfl⟩
end
end Go.Proofs.Ytlijeincckbdaaa
