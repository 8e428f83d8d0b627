/- Words of this session's own for walks over data in memory: kinds of data, rows that are read, rows that are owned. No program is in sight here. -/
import Derived.WalkKit
import Derived.Lib.Hide
import Derived.Deep.LoopGhost
import Derived.Deep.Slices
import Derived.Deep.QuietTactic
import Derived.BigQuiet
namespace Go.Proofs.Ytdgnpkffdiopaaa
open Go.RowKit
set_option linter.unusedSimpArgs false
set_option linter.unusedVariables false

/-- A kind of data: how many cells it takes, how it reads, how it is owned. -/
structure Kd (α : Type) where
  sz : Nat
  C : World → α → List Value → Prop
  O : World → List Nat → α → List Value → Prop
  hlen : ∀ {w x cs}, C w x cs → cs.length = sz
  hone : ∀ {w x cs}, C w x cs → ∀ u ∈ cs, u.oneCell' = true
  hbelow : ∀ {w w' : World} {x cs}, Below w.heap.size w w' → C w x cs → C w' x cs
  hOC : ∀ {w F x cs}, O w F x cs → C w x cs
  hOlt : ∀ {w : World} {F x cs}, O w F x cs → ∀ k ∈ F, k < w.heap.size
  hOnd : ∀ {w : World} {F x cs}, O w F x cs → F.Nodup
  hOkeep : ∀ {w w' : World} {F x cs}, (∀ k ∈ F, w'.heap[k]? = w.heap[k]?) → O w F x cs → O w' F x cs

/-- A kind whose cells hang on the datum alone. -/
def kFlat {α : Type} (enc : α → List Value) (n : Nat) (h : ∀ x, (enc x).length = n) (h1 : ∀ x, ∀ u ∈ enc x, u.oneCell' = true) : Kd α where
  sz := n
  C := fun _ x cs => cs = enc x
  O := fun _ F x cs => F = [] ∧ cs = enc x
  hlen := fun e => e ▸ h _
  hone := fun e => e ▸ h1 _
  hbelow := fun _ e => e
  hOC := fun e => e.2
  hOlt := fun e k hk => by rw [e.1] at hk; cases hk
  hOnd := fun e => by rw [e.1]; exact List.nodup_nil
  hOkeep := fun _ e => e

/-- The cells of element i of a row at an address. -/
def CellsAt (w : World) (a : Addr) (o : Nat) (cs : List Value) : Prop := ∀ j u, cs[j]? = some u → w.cell? (a.add (o + j)) = some u

/-- A row that is read: a slice's address and capacity, and what stands in it. -/
def Rd {α : Type} (d : Kd α) (w : World) (A : Option Addr) (c : Nat) (xs : List α) : Prop :=
  xs.length ≤ c ∧ c ≤ maxLen ∧ (∀ i x, xs[i]? = some x → ∃ a, A = some a ∧ ∃ cs, d.C w x cs ∧ CellsAt w a (i * d.sz) cs) ∧ (A = none → c = 0)

/-- The elements of a row of the call's own, each with the blocks that it owns. -/
def Els {α : Type} (d : Kd α) (w : World) : List α → List (List Nat) → List (List Value) → Prop
  | [], [], [] => True
  | x :: xs, F :: Fs, cs :: css => d.O w F x cs ∧ Els d w xs Fs css
  | _, _, _ => False

/-- A row of the call's own: the slice's value, its blocks. e: the element type's number. -/
def Ow {α : Type} (d : Kd α) (e : TypeId) (w : World) (F : List Nat) (v : Value) (xs : List α) : Prop :=
  ∃ Fs css, Els d w xs Fs css ∧ w.ownsRow 0 e d.sz v xs.length css.flatten ∧ F = v.ownBlock.toList ++ Fs.flatten ∧ F.Nodup ∧ (∀ k ∈ F, k < w.heap.size)

section
variable {α : Type} {d : Kd α} {w w' : World}

theorem CellsAt.below {a : Addr} {o : Nat} {cs : List Value} (hb : Below w.heap.size w w') (h : CellsAt w a o cs) : CellsAt w' a o cs := fun j u hu => by
  have := h j u hu
  rw [hb.cell (World.block_lt_of_cell? w _ this)]; exact this

theorem Rd.below {A : Option Addr} {c : Nat} {xs : List α} (hb : Below w.heap.size w w') (h : Rd d w A c xs) : Rd d w' A c xs :=
  ⟨h.1, h.2.1, fun i x hx => let ⟨a, ha, cs, hc, hk⟩ := h.2.2.1 i x hx; ⟨a, ha, cs, d.hbelow hb hc, hk.below hb⟩, h.2.2.2⟩

theorem Rd.nil (d : Kd α) (w : World) : Rd d w none 0 [] := ⟨Nat.le_refl _, Nat.zero_le _, fun i x hx => by simp at hx, fun _ => rfl⟩

theorem Els.lens : ∀ {xs : List α} {Fs css}, Els d w xs Fs css → Fs.length = xs.length ∧ css.length = xs.length
  | [], [], [], _ => ⟨rfl, rfl⟩
  | _ :: _, _ :: _, _ :: _, h => let ⟨a, b⟩ := Els.lens h.2; ⟨by simp [a], by simp [b]⟩

theorem Els.at : ∀ {xs : List α} {Fs css}, Els d w xs Fs css → ∀ (i : Nat) (x : α), xs[i]? = some x → ∃ F cs, Fs[i]? = some F ∧ css[i]? = some cs ∧ d.O w F x cs
  | [], _, _, _, i, x, hx => by simp at hx
  | _ :: _, F :: _, cs :: _, h, 0, x, hx => by simp at hx; subst hx; exact ⟨F, cs, rfl, rfl, h.1⟩
  | _ :: _, _ :: _, _ :: _, h, i + 1, x, hx => by
    obtain ⟨F, cs, a, b, c⟩ := Els.at h.2 i x (by simpa using hx)
    exact ⟨F, cs, by simpa using a, by simpa using b, c⟩

theorem Els.keep : ∀ {xs : List α} {Fs css}, (∀ k ∈ Fs.flatten, w'.heap[k]? = w.heap[k]?) → Els d w xs Fs css → Els d w' xs Fs css
  | [], [], [], _, _ => trivial
  | _ :: _, _ :: _, _ :: _, hk, h => ⟨d.hOkeep (fun k h1 => hk k (by simp [h1])) h.1, Els.keep (fun k h1 => hk k (by simp at h1; simp; exact .inr h1)) h.2⟩

theorem Els.append : ∀ {xs : List α} {Fs css} {ys : List α} {Gs dss}, Els d w xs Fs css → Els d w ys Gs dss → Els d w (xs ++ ys) (Fs ++ Gs) (css ++ dss)
  | [], [], [], _, _, _, _, h => h
  | _ :: _, _ :: _, _ :: _, _, _, _, h, k => ⟨h.1, Els.append h.2 k⟩

theorem Els.flat_len : ∀ {xs : List α} {Fs css}, Els d w xs Fs css → css.flatten.length = xs.length * d.sz
  | [], [], [], _ => by simp
  | _ :: xs, _ :: _, cs :: css, h => by
    have := Els.flat_len h.2
    have := d.hlen (d.hOC h.1)
    simp [*, Nat.add_mul]; omega

theorem flatten_at {n : Nat} : ∀ {css : List (List Value)}, (∀ cs ∈ css, cs.length = n) → ∀ (i : Nat) (cs : List Value), css[i]? = some cs → ∀ (j : Nat) (u : Value), cs[j]? = some u → css.flatten[i * n + j]? = some u
  | [], _, i, cs, hi, _, _, _ => by simp at hi
  | c0 :: css, hl, 0, cs, hi, j, u, hu => by
    simp at hi; subst hi
    have hj := List.getElem?_eq_some_iff.1 hu
    simp [List.getElem?_append_left hj.1, hu]
  | c0 :: css, hl, i + 1, cs, hi, j, u, hu => by
    have h0 : c0.length = n := hl _ (by simp)
    have := flatten_at (n := n) (css := css) (fun c hc => hl c (by simp [hc])) i cs (by simpa using hi) j u hu
    rw [List.flatten_cons, List.getElem?_append_right (by rw [h0, Nat.add_mul]; omega)]
    rw [← this]; congr 1; rw [h0, Nat.add_mul]; omega

theorem Els.all_len {xs : List α} {Fs css} (h : Els d w xs Fs css) : ∀ cs ∈ css, cs.length = d.sz := by
  intro cs hcs
  obtain ⟨i, hi⟩ := List.getElem?_of_mem hcs
  have hl := h.lens
  have : i < xs.length := by have := (List.getElem?_eq_some_iff.1 hi).1; omega
  obtain ⟨F, cs', _, hc, hO⟩ := h.at i xs[i] (by simp [this])
  rw [hi] at hc; cases hc
  exact d.hlen (d.hOC hO)

theorem Ow.slice {e : TypeId} {F : List Nat} {v : Value} {xs : List α} (h : Ow d e w F v xs) : ∃ A c, v = .slice A xs.length c := by
  obtain ⟨Fs, css, _, ho, _⟩ := h
  rcases ho.2 with ⟨rfl, h0⟩ | ⟨g, cap, cur, rfl, _⟩
  · exact ⟨none, 0, by rw [h0]⟩
  · exact ⟨_, _, rfl⟩

theorem Ow.rd {e : TypeId} {F : List Nat} {A : Option Addr} {n c : Nat} {xs : List α} (h : Ow d e w F (.slice A n c) xs) : n = xs.length ∧ Rd d w A c xs := by
  obtain ⟨Fs, css, hE, ho, _⟩ := h
  rcases ho.2 with ⟨hv, h0⟩ | ⟨g, cap, cur, hv, _, hg, h1, h2, _⟩
  · cases hv
    have : xs = [] := List.eq_nil_of_length_eq_zero h0
    subst this; exact ⟨rfl, Rd.nil _ _⟩
  · cases hv
    refine ⟨rfl, h1, h2, fun i x hx => ⟨_, rfl, ?_⟩, fun h => by cases h⟩
    obtain ⟨F, cs, _, hc, hO⟩ := hE.at i x hx
    exact ⟨cs, d.hOC hO, fun j u hu => ho.cells rfl _ _ (flatten_at hE.all_len i cs hc j u hu)⟩

theorem Ow.keep {e : TypeId} {F : List Nat} {v : Value} {xs : List α} (hk : ∀ k ∈ F, w'.heap[k]? = w.heap[k]?) (hs : w.heap.size ≤ w'.heap.size) (h : Ow d e w F v xs) : Ow d e w' F v xs := by
  obtain ⟨Fs, css, hE, ho, hF, hn, hlt⟩ := h
  refine ⟨Fs, css, hE.keep (fun k h1 => hk k (by rw [hF]; simp only [List.mem_append]; exact .inr h1)), ?_, hF, hn, fun k h1 => Nat.lt_of_lt_of_le (hlt k h1) hs⟩
  refine ⟨ho.1, ?_⟩
  rcases ho.2 with h0 | ⟨g, cap, cur, rfl, hb, hg, rest⟩
  · exact .inl h0
  · exact .inr ⟨g, cap, cur, rfl, hb, (hk g (by rw [hF]; simp [Value.ownBlock])).trans hg, rest⟩

theorem Ow.below {e : TypeId} {F : List Nat} {v : Value} {xs : List α} (hb : Below w.heap.size w w') (h : Ow d e w F v xs) : Ow d e w' F v xs :=
  h.keep (fun k hk => hb.block k (h.choose_spec.choose_spec.2.2.2.2 k hk)) hb.size

theorem Ow.nodup {e : TypeId} {F : List Nat} {v : Value} {xs : List α} (h : Ow d e w F v xs) : F.Nodup := h.choose_spec.choose_spec.2.2.2.1
theorem Ow.lt {e : TypeId} {F : List Nat} {v : Value} {xs : List α} (h : Ow d e w F v xs) : ∀ k ∈ F, k < w.heap.size := h.choose_spec.choose_spec.2.2.2.2
theorem Ow.nil (d : Kd α) (e : TypeId) (w : World) : Ow d e w [] (.slice none 0 0) [] := ⟨[], [], trivial, ⟨by simp, .inl ⟨rfl, rfl⟩⟩, rfl, List.nodup_nil, by simp⟩
end

section
theorem add_block (a : Addr) (n : Nat) : (a.add n).block = a.block := by unfold Addr.add; split <;> rfl
theorem add_add' (a : Addr) (i j : Nat) : a.add (i + j) = (a.add i).add j := (Go.Deep.add_add a i j).symm

theorem add_lit (b off : Nat) (n : Nat) : (⟨b, off, none⟩ : Addr).add n = ⟨b, off + n, none⟩ := by
  unfold Addr.add; split
  · rename_i h; subst h; rfl
  · rfl
/-- The address of a row that is not empty lies in no spot of a cell. -/
theorem CellsAt.lit {w : World} {a : Addr} {o : Nat} {cs : List Value} (h : CellsAt w a o cs) (hc : 0 < cs.length) : ∃ b off, a = ⟨b, off, none⟩ ∨ 0 < o := by
  exact ⟨a.block, a.off, by
    rcases Nat.eq_zero_or_pos o with h0 | h0
    · subst h0
      have := h 0 cs[0] (by simp [hc])
      simp only [Nat.add_zero, Addr.add, if_true, World.cell?] at this
      left
      obtain ⟨b, f, sp⟩ := a
      cases sp with
      | none => rfl
      | some x => simp at this; split at this <;> simp at this
    · exact .inr h0⟩
theorem Rd.lit {α : Type} {d : Kd α} {w : World} {A : Option Addr} {c : Nat} {xs : List α} (H : Rd d w A c xs) (hd : 0 < d.sz) (hx : 0 < xs.length) : ∃ b off, A = some ⟨b, off, none⟩ := by
  obtain ⟨a, ha, cs, hc, hs⟩ := H.2.2.1 0 xs[0] (by simp [hx])
  obtain ⟨b, off, h⟩ := hs.lit (by rw [d.hlen hc]; exact hd)
  rcases h with h | h
  · exact ⟨b, off, by rw [ha, h]⟩
  · omega
theorem Rd.at {α : Type} {d : Kd α} {w : World} {A : Option Addr} {c : Nat} {xs : List α} (H : Rd d w A c xs) (hd : 0 < d.sz) {k : Nat} (hk : k < xs.length) :
    ∃ b off, A = some ⟨b, off, none⟩ ∧ b < w.heap.size ∧ ∃ cs, d.C w xs[k] cs ∧ ∀ j u, cs[j]? = some u → w.cell? ⟨b, off + k * d.sz + j, none⟩ = some u := by
  obtain ⟨b, off, rfl⟩ := H.lit hd (by omega)
  obtain ⟨a, ha, cs, hc, hs⟩ := H.2.2.1 k xs[k] (by simp [hk])
  cases ha
  have hl : 0 < cs.length := by rw [d.hlen hc]; exact hd
  have hs' : ∀ j u, cs[j]? = some u → w.cell? ⟨b, off + k * d.sz + j, none⟩ = some u := fun j u hu => by
    have := hs j u hu
    rwa [add_lit, ← Nat.add_assoc] at this
  refine ⟨b, off, rfl, ?_, cs, hc, hs'⟩
  exact World.block_lt_of_cell? w _ (hs' 0 cs[0] (by simp [hl]))

end

/-- A slice as a field: a kind of one cell. -/
def kSl {α : Type} (d : Kd α) (e : TypeId) : Kd (List α) where
  sz := 1
  C := fun w xs cs => ∃ A c, cs = [.slice A xs.length c] ∧ Rd d w A c xs
  O := fun w F xs cs => ∃ v, cs = [v] ∧ Ow d e w F v xs
  hlen := fun ⟨A, c, h, _⟩ => by rw [h]; rfl
  hone := fun ⟨A, c, h, _⟩ u hu => by rw [h] at hu; simp at hu; subst hu; rfl
  hbelow := fun hb ⟨A, c, h, hr⟩ => ⟨A, c, h, hr.below hb⟩
  hOC := fun ⟨v, h, ho⟩ => by
    obtain ⟨A, c, rfl⟩ := ho.slice
    exact ⟨A, c, h, ho.rd.2⟩
  hOlt := fun ⟨v, h, ho⟩ => ho.lt
  hOnd := fun ⟨v, h, ho⟩ => ho.nodup
  hOkeep := fun {w w' F x cs} hk ⟨v, h, ho⟩ => by
    refine ⟨v, h, ?_⟩
    obtain ⟨Fs, css, hE, ho, hF, hn, hlt⟩ := ho
    refine ⟨Fs, css, hE.keep (fun k h1 => hk k (by rw [hF]; simp only [List.mem_append]; exact .inr h1)), ?_, hF, hn, fun k h1 => ?_⟩
    · refine ⟨ho.1, ?_⟩
      rcases ho.2 with h0 | ⟨g, cap, cur, rfl, hb, hg, rest⟩
      · exact .inl h0
      · exact .inr ⟨g, cap, cur, rfl, hb, (hk g (by rw [hF]; simp [Value.ownBlock])).trans hg, rest⟩
    · have h2 := hk k h1
      have h3 := hlt k h1
      have : ∃ o, w.heap[k]? = some o := ⟨w.heap[k], by simp [h3]⟩
      obtain ⟨o, ho'⟩ := this
      rw [ho'] at h2
      exact (Array.getElem?_eq_some_iff.1 h2).1

/-- Two kinds side by side, out of one datum. -/
def kAnd {α β γ : Type} (d : Kd α) (d' : Kd β) (f : γ → α) (g : γ → β) : Kd γ where
  sz := d.sz + d'.sz
  C := fun w x cs => ∃ c1 c2, cs = c1 ++ c2 ∧ d.C w (f x) c1 ∧ d'.C w (g x) c2
  O := fun w F x cs => ∃ F1 F2 c1 c2, F = F1 ++ F2 ∧ F.Nodup ∧ cs = c1 ++ c2 ∧ d.O w F1 (f x) c1 ∧ d'.O w F2 (g x) c2
  hlen := fun ⟨c1, c2, h, h1, h2⟩ => by rw [h, List.length_append, d.hlen h1, d'.hlen h2]
  hone := fun ⟨c1, c2, h, h1, h2⟩ u hu => by
    rw [h] at hu
    rcases List.mem_append.1 hu with hu | hu
    · exact d.hone h1 u hu
    · exact d'.hone h2 u hu
  hbelow := fun hb ⟨c1, c2, h, h1, h2⟩ => ⟨c1, c2, h, d.hbelow hb h1, d'.hbelow hb h2⟩
  hOC := fun ⟨F1, F2, c1, c2, _, _, h, h1, h2⟩ => ⟨c1, c2, h, d.hOC h1, d'.hOC h2⟩
  hOlt := fun ⟨F1, F2, c1, c2, hF, _, h, h1, h2⟩ k hk => by
    rw [hF] at hk
    rcases List.mem_append.1 hk with hk | hk
    · exact d.hOlt h1 k hk
    · exact d'.hOlt h2 k hk
  hOnd := fun ⟨F1, F2, c1, c2, hF, hn, h, h1, h2⟩ => hn
  hOkeep := fun hk ⟨F1, F2, c1, c2, hF, hn, h, h1, h2⟩ => ⟨F1, F2, c1, c2, hF, hn, h, d.hOkeep (fun k h => hk k (by rw [hF]; simp [h])) h1, d'.hOkeep (fun k h => hk k (by rw [hF]; simp [h])) h2⟩

theorem fill_step {α : Type} (xs : List α) (z : α) {k : Nat} (hk : k < xs.length) : (xs.take k ++ List.replicate (xs.length - k) z).set k xs[k] = xs.take (k + 1) ++ List.replicate (xs.length - (k + 1)) z := by
  rw [show xs.length - k = (xs.length - (k + 1)) + 1 by omega, List.replicate_succ, List.set_append_right _ _ (by rw [List.length_take]; omega)]
  have : k - (xs.take k).length = 0 := by rw [List.length_take]; omega
  rw [this, List.set_cons_zero, List.take_succ_eq_append_getElem hk, List.append_assoc]; rfl
theorem new_or {F F' G : List Nat} {B : Nat} (h : ∀ b ∈ F', b ∈ F ∨ b ∈ G) (h1 : ∀ b ∈ F, B ≤ b) (h2 : ∀ b ∈ G, B ≤ b) : ∀ b ∈ F', B ≤ b := fun b hb => (h b hb).elim (h1 b) (h2 b)
theorem no_mem {B : Nat} : ∀ b ∈ ([] : List Nat), B ≤ b := fun b hb => by cases hb
theorem quietR {P : Program} {f : FuncId} {args : Array Value} {w : World} {n : Nat} {v : Value}
    (h : Calls P f args (w.drewN n) fun e w' => e = .returned v ∧ w.drewN n = w') : Calls P f args (w.drewN n) fun e w'' => e = .returned v ∧ ∃ m, w'' = w.drewN m :=
  h.mono fun _ _ ⟨he, hm⟩ => ⟨he, n, hm.symm⟩
theorem ret_eq {a b : Value} (h : a = b) : Ending.returned a = Ending.returned b := by rw [h]
def kInt : Kd Int := kFlat (fun n => [.int .i64 n]) 1 (fun _ => rfl) (fun _ u hu => by simp at hu; subst hu; rfl)
def kBool : Kd Bool := kFlat (fun n => [.bool n]) 1 (fun _ => rfl) (fun _ u hu => by simp at hu; subst hu; rfl)
def kStr : Kd ByteArray := kFlat (fun n => [.string n]) 1 (fun _ => rfl) (fun _ u hu => by simp at hu; subst hu; rfl)
end Go.Proofs.Ytdgnpkffdiopaaa
