/- What an argument's reading tells, in the words of this session's kinds. No program is in sight here. -/
import Derived.Test.YtdgnpkffdiopaaaWp
import Derived.ProofKit
import Derived.Deep.Slices
namespace Go.Proofs.Ytdgnpkffdiopaaa
open Go.RowKit
set_option linter.unusedSimpArgs false
set_option linter.unusedVariables false
/-- A reading of this type is a datum of this kind. -/
def Opens {α : Type} (P : Program) (t : TypeId) (d : Kd α) (ok : α → Prop) : Prop :=
  ∀ (H : Type) (enc : TypeId × Value → H) (w : World) (spare : Nat → Bool) (held : Bool) (fuel : Nat) (cs : List Value) (x : DataW H × List MemPlace), DataW.trod enc P w 0 spare held fuel t cs = some x → ∃ y, d.C w y cs ∧ ok y
section
variable {P : Program} {t e : TypeId} {α : Type} {d : Kd α} {ok : α → Prop}
theorem opens_int (ht : P.underlying t = some (.int .i64)) : Opens P t kInt (fun n => -9223372036854775808 ≤ n ∧ n ≤ 9223372036854775807) := fun H enc w spare held fuel cs x h => by
  obtain ⟨n, rfl, _, hw⟩ := DataW.trod_int ht h
  simp only [Lit.wf, Bool.and_eq_true, decide_eq_true_eq] at hw
  have e1 : IntKind.i64.min = -9223372036854775808 := by rfl
  have e2 : IntKind.i64.max = 9223372036854775807 := by rfl
  exact ⟨n, rfl, by omega⟩
theorem opens_str (ht : P.underlying t = some .string) : Opens P t kStr (fun s => s.size ≤ 9223372036854775807) := fun H enc w spare held fuel cs x h => by
  obtain ⟨s, rfl, _, hw⟩ := DataW.trod_string ht h
  exact ⟨s, rfl, hw⟩
theorem opens_slice {e' : TypeId} (ht : P.underlying t = some (.slice e)) (hc : P.cellsOf e = d.sz) (h : Opens P e d ok) : Opens P t (kSl d e') (fun xs => ∀ x ∈ xs, ok x) := fun H enc w spare held fuel cs x hx => by
  rcases Go.Deep.open_slice ht hx with ⟨rfl, _⟩ | ⟨a, len, cap, m, n, D, Pl, rfl, _, hl, hm, hmm, _, hel⟩
  · exact ⟨[], ⟨none, 0, rfl, Rd.nil _ _⟩, fun x hx => by cases hx⟩
  · have hlm : len ≤ m := by rw [hmm]; split <;> omega
    have key : ∀ i : Fin len, ∃ y : α, (∃ cs, d.C w y cs ∧ CellsAt w a (i.1 * d.sz) cs) ∧ ok y := fun i => by
      obtain ⟨cs', h1, h2⟩ := hel i.1 (by have := i.2; omega)
      obtain ⟨y, hy, ho⟩ := h H enc w spare held n cs' _ h2
      obtain ⟨_, h3, h4⟩ := World.cells?_some h1
      rw [hc] at h3 h4
      refine ⟨y, ⟨cs', hy, fun j u hu => ?_⟩, ho⟩
      have hj : j < d.sz := by have := (List.getElem?_eq_some_iff.1 hu).1; omega
      rw [add_add', h4 j hj, hu]
    refine ⟨List.ofFn fun i => (key i).choose, ⟨some a, cap, by simp, by simpa using hl, hm, fun i x hx => ?_, fun h => by cases h⟩, fun x hx => ?_⟩
    · have hi : i < len := by have := (List.getElem?_eq_some_iff.1 hx).1; simpa using this
      have := (key ⟨i, hi⟩).choose_spec.1
      rw [List.getElem?_ofFn, dif_pos hi] at hx
      cases hx
      exact ⟨a, rfl, this⟩
    · obtain ⟨i, rfl⟩ := List.mem_ofFn.1 hx
      exact (key i).choose_spec.2
theorem Opens.mono {ok' : α → Prop} (h : Opens P t d ok) (hk : ∀ x, ok x → ok' x) : Opens P t d ok' := fun H enc w spare held fuel cs x hx => let ⟨y, hy, ho⟩ := h H enc w spare held fuel cs x hx; ⟨y, hy, hk y ho⟩
/-- A struct's fields, each read. -/
theorem opens_fields {fs : Array Field} {H : Type} {enc : TypeId × Value → H} {w : World} {spare : Nat → Bool} {held : Bool} {fuel : Nat} {cs : List Value} {x : DataW H × List MemPlace} (ht : P.underlying t = some (.struct fs)) {k : Nat} (hk : P.cellsOf t = k) (h : DataW.trod enc P w 0 spare held fuel t cs = some x) :
    cs.length = k ∧ ∀ (i t' o m : Nat), (fs[i]?).map (fun f => (f.type, f.offset)) = some (t', o) → P.cellsOf t' = m → ∃ n y, DataW.trod enc P w 0 spare held n t' ((cs.drop o).take m) = some y := by
  obtain ⟨xs, n, _, _, hl, hlen, hf⟩ := DataW.trod_struct ht h
  refine ⟨hl.trans hk, fun i t' o m hi hm => ?_⟩
  obtain ⟨f, hi2, e⟩ := Option.map_eq_some_iff.1 hi
  cases e
  subst hm
  have h1 := hf i f hi2
  have : i < xs.length := by have := (Array.getElem?_eq_some_iff.1 hi2).1; omega
  exact ⟨n, xs[i], by rw [h1]; simp [this]⟩
end
end Go.Proofs.Ytdgnpkffdiopaaa
