/- What an argument's reading tells, in the words of the abstract machine. No program is in sight here. -/
import Derived.Test.YtlijeincckbdaaaB4
import Derived.ProofKit
import Derived.Deep.Slices
namespace Go.Proofs.Ytlijeincckbdaaa
open Go.RowKit
set_option linter.unusedSimpArgs false
set_option linter.unusedVariables false
/-- All memory that is there. -/
def cAll (w : World) : Ctx := c0 fun k => k < w.heap.size
/-- A reading of this type is a datum, laid in cells so. -/
def OpensA {α : Type} (P : Program) (t : TypeId) (f : α → List AV) (ok : α → Prop) : Prop :=
  ∀ (H : Type) (enc : TypeId × Value → H) (w : World) (spare : Nat → Bool) (held : Bool) (fuel : Nat) (cs : List Value) (x : DataW H × List MemPlace), DataW.trod enc P w 0 spare held fuel t cs = some x → ∃ y, RL (cAll w) w (f y) cs ∧ ok y
section
variable {P : Program} {t e : TypeId} {α : Type} {f : α → List AV} {ok : α → Prop}
theorem opensA_int (ht : P.underlying t = some (.int .i64)) : OpensA P t (fun n : Int => [.lit (.int .i64 n)]) (fun n => -9223372036854775808 ≤ n ∧ n ≤ 9223372036854775807) := fun H enc w spare held fuel cs x h => by
  obtain ⟨n, rfl, _, hw⟩ := DataW.trod_int ht h
  simp only [Lit.wf, Bool.and_eq_true, decide_eq_true_eq] at hw
  have e1 : IntKind.i64.min = -9223372036854775808 := by rfl
  have e2 : IntKind.i64.max = 9223372036854775807 := by rfl
  exact ⟨n, ⟨⟨.lit _, rfl⟩, trivial⟩, by omega⟩
theorem opensA_byte (ht : P.underlying t = some (.int .u8)) : OpensA P t (fun n : UInt8 => [.lit (.int .u8 (n.toNat : Int))]) (fun _ => True) := fun H enc w spare held fuel cs x h => by
  obtain ⟨n, rfl, _, hw⟩ := DataW.trod_int ht h
  simp only [Lit.wf, Bool.and_eq_true, decide_eq_true_eq] at hw
  have e1 : IntKind.u8.min = 0 := by rfl
  have e2 : IntKind.u8.max = 255 := by rfl
  refine ⟨UInt8.ofNat n.toNat, ⟨⟨?_, rfl⟩, trivial⟩, trivial⟩
  have : ((UInt8.ofNat n.toNat).toNat : Int) = n := by
    rw [UInt8.toNat_ofNat']; omega
  rw [this]; exact .lit _
theorem opensA_str (ht : P.underlying t = some .string) : OpensA P t (fun s : ByteArray => [.lit (.string s)]) (fun s => s.size ≤ 9223372036854775807) := fun H enc w spare held fuel cs x h => by
  obtain ⟨s, rfl, _, hw⟩ := DataW.trod_string ht h
  exact ⟨s, ⟨⟨.lit _, rfl⟩, trivial⟩, hw⟩
theorem opensA_bool (ht : P.underlying t = some .bool) : OpensA P t (fun b : Bool => [.lit (.bool b)]) (fun _ => True) := fun H enc w spare held fuel cs x h => by
  obtain ⟨b, rfl, _⟩ := DataW.trod_bool ht h
  exact ⟨b, ⟨⟨.lit _, rfl⟩, trivial⟩, trivial⟩
theorem opensA_slice {k : Nat} (ht : P.underlying t = some (.slice e)) (hc : P.cellsOf e = k) (hk : 0 < k) (hf : ∀ x, (f x).all AV.isCell = true) (hl : ∀ x, (f x).length = k) (h : OpensA P e f ok) :
    OpensA P t (fun xs : List α => [.row true k (xs.map f)]) (fun xs => xs.length ≤ 9223372036854775807 ∧ ∀ x ∈ xs, ok x) := fun H enc w spare held fuel cs x hx => by
  rcases Go.Deep.open_slice ht hx with ⟨rfl, _⟩ | ⟨a, len, cap, m, n, D, Pl, rfl, _, hlc, hm, hmm, _, hel⟩
  · exact ⟨[], ⟨⟨.row 0 0 (fun _ _ => default) (Nat.le_refl _) (by simp) (by simp) (by simp) (by simp [elt]) (by simp [elt]) (by simp [elt]) (by simp [elt]), rfl⟩, trivial⟩, by simp, fun x hx => by cases hx⟩
  · have hlm : len ≤ m := by rw [hmm]; split <;> omega
    have hspot : 0 < len → a.spot = none ∧ a.block < w.heap.size := fun hp => by
      obtain ⟨cs', h1, _⟩ := hel 0 (by omega)
      obtain ⟨_, h3, h4⟩ := World.cells?_some h1
      rw [hc] at h3 h4
      have h5 := h4 0 hk
      have e0 : (a.add (0 * k)).add 0 = a := by simp [Addr.add]
      rw [e0, show cs'[0]? = some (cs'[0]'(by omega)) by simp] at h5
      unfold World.cell? at h5
      split at h5
      · rename_i hq
        split at h5
        · cases h5
        · rename_i hs
          exact ⟨by simpa using hs, (Array.getElem?_eq_some_iff.1 hq).1⟩
      · cases h5
    have key : ∀ i : Fin len, ∃ y : α, (∃ cs, RL (cAll w) w (f y) cs ∧ cs.length = k ∧ ∀ j v, cs[j]? = some v → w.cell? ⟨a.block, a.off + i.1 * k + j, none⟩ = some v) ∧ ok y := fun i => by
      obtain ⟨cs', h1, h2⟩ := hel i.1 (by have := i.2; omega)
      obtain ⟨y, hy, ho⟩ := h H enc w spare held n cs' _ h2
      obtain ⟨_, h3, h4⟩ := World.cells?_some h1
      rw [hc] at h3 h4
      refine ⟨y, ⟨cs', hy, h3, fun j v hv => ?_⟩, ho⟩
      have hj : j < k := by have := (List.getElem?_eq_some_iff.1 hv).1; omega
      have h5 := h4 j hj
      rw [hv] at h5
      have hsp := (hspot (by have := i.2; omega)).1
      have e1 : (a.add (i.1 * k)).add j = ⟨a.block, a.off + i.1 * k + j, none⟩ := by
        obtain ⟨b, o, sp⟩ := a
        simp only at hsp
        subst hsp
        simp only [Addr.add]
        split <;> split <;> simp_all
      rw [← e1]; exact h5
    let ys : List α := List.ofFn fun i => (key i).choose
    have hys : ys.length = len := by simp [ys]
    have hget : ∀ i (hi : i < len), ys[i]? = some (key ⟨i, hi⟩).choose := fun i hi => by simp [ys, hi]
    have helt : ∀ i j x, elt (ys.map f) i j = some x → ∃ hi : i < len, (f (key ⟨i, hi⟩).choose)[j]? = some x := fun i j x hx => by
      unfold elt at hx
      have hi : i < len := by
        rcases Nat.lt_or_ge i len with h1 | h1
        · exact h1
        · rw [List.getElem?_eq_none (by simp [hys]; exact h1)] at hx; cases hx
      rw [List.getElem?_map, hget i hi] at hx
      exact ⟨hi, hx⟩
    let vals : Nat → Nat → Value := fun i j => if hi : i < len then ((key ⟨i, hi⟩).choose_spec.1.choose[j]?).getD default else default
    have hval : ∀ i j x, elt (ys.map f) i j = some x → ∃ v, vals i j = v ∧ w.cell? ⟨a.block, a.off + i * k + j, none⟩ = some v ∧ (R (cAll w) w x v ∧ v.oneCell' = true) := fun i j x hx => by
      obtain ⟨hi, hx⟩ := helt i j x hx
      obtain ⟨h1, h2, h3⟩ := (key ⟨i, hi⟩).choose_spec.1.choose_spec
      have hj : j < k := by have := (List.getElem?_eq_some_iff.1 hx).1; rw [hl] at this; exact this
      have hv : (key ⟨i, hi⟩).choose_spec.1.choose[j]? = some ((key ⟨i, hi⟩).choose_spec.1.choose[j]'(by omega)) := by simp
      generalize (key ⟨i, hi⟩).choose_spec.1.choose[j]'(by omega) = v at hv
      refine ⟨v, by simp only [vals, dif_pos hi, hv, Option.getD_some], h3 j v hv, h1.at hx hv⟩
    refine ⟨ys, ⟨⟨?_, rfl⟩, trivial⟩, ?_, fun x hx => ?_⟩
    · have hlen : (ys.map f).length = len := by simp [hys]
      have := R.row (c := cAll w) (w := w) (own := true) (sz := k) (es := ys.map f) (A := some a) (cap := cap) a.block a.off vals (by rw [hlen]; exact hlc) hm (fun hp => by
          rw [hlen] at hp
          obtain ⟨h1, h2⟩ := hspot hp
          refine ⟨?_, h2⟩
          cases a; simp only at h1; subst h1; rfl)
        (fun e he => by obtain ⟨y, _, rfl⟩ := List.mem_map.1 he; exact hl y)
        (fun i j x hx => by
          obtain ⟨hi, hx⟩ := helt i j x hx
          exact List.all_eq_true.1 (hf _) x (List.mem_of_getElem? hx))
        (fun i j x hx => by obtain ⟨v, h1, h2, _⟩ := hval i j x hx; rw [h1]; exact h2)
        (fun i j x hx => by obtain ⟨v, h1, _, h2⟩ := hval i j x hx; rw [h1]; exact h2.2)
        (fun i j x hx => by obtain ⟨v, h1, _, h2⟩ := hval i j x hx; rw [h1]; exact h2.1)
      rw [hlen] at this
      exact this
    · rw [hys]; simp only [maxLen] at hm; omega
    · obtain ⟨i, rfl⟩ := List.mem_ofFn.1 hx
      exact (key i).choose_spec.2
theorem OpensA.mono {ok' : α → Prop} (h : OpensA P t f ok) (hk : ∀ x, ok x → ok' x) : OpensA P t f ok' := fun H enc w spare held fuel cs x hx => let ⟨y, hy, ho⟩ := h H enc w spare held fuel cs x hx; ⟨y, hy, hk y ho⟩
/-- A struct's fields, each read. -/
theorem opensA_fields {fs : Array Field} {H : Type} {enc : TypeId × Value → H} {w : World} {spare : Nat → Bool} {held : Bool} {fuel : Nat} {cs : List Value} {x : DataW H × List MemPlace} (ht : P.underlying t = some (.struct fs)) {k : Nat} (hk : P.cellsOf t = k) (h : DataW.trod enc P w 0 spare held fuel t cs = some x) :
    cs.length = k ∧ ∀ (i t' o m : Nat), (fs[i]?).map (fun f => (f.type, f.offset)) = some (t', o) → P.cellsOf t' = m → ∃ n y, DataW.trod enc P w 0 spare held n t' ((cs.drop o).take m) = some y := by
  obtain ⟨xs, n, _, _, hl, hlen, hf⟩ := DataW.trod_struct ht h
  refine ⟨hl.trans hk, fun i t' o m hi hm => ?_⟩
  obtain ⟨f, hi2, e⟩ := Option.map_eq_some_iff.1 hi
  cases e
  subst hm
  have h1 := hf i f hi2
  have : i < xs.length := by have := (Array.getElem?_eq_some_iff.1 hi2).1; omega
  exact ⟨n, xs[i], by rw [h1]; simp [this]⟩
theorem RL.app {c : Ctx} {w : World} : ∀ {xs ys : List AV} {vs us : List Value}, RL c w xs vs → RL c w ys us → RL c w (xs ++ ys) (vs ++ us)
  | [], ys, [], us, _, h => h
  | x :: xs, ys, v :: vs, us, h, h' => ⟨h.1, RL.app h.2 h'⟩
theorem RL_one {w : World} {x : AV} {v : Value} (h : RL (cAll w) w [x] [v]) : RTL (cAll w) w [.one x] [v] := ⟨h.1, trivial⟩
end
end Go.Proofs.Ytlijeincckbdaaa
