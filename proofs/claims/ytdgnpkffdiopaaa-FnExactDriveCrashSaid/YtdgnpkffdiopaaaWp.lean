/- Laws of this session's own: what make and append leave, in the words of owned rows. -/
import Derived.Test.YtdgnpkffdiopaaaLib
import Derived.OwnWalk
import Derived.Maps.AppendAt
import Derived.Laws.MakeOwn
import Derived.Laws.AppendOwnNone
namespace Go.Proofs.Ytdgnpkffdiopaaa
open Go.RowKit
set_option linter.unusedSimpArgs false
set_option linter.unusedVariables false

/-- An empty row in a new block. -/
theorem ow_empty {α : Type} (d : Kd α) (e : TypeId) (w : World) : Ow d e (w.alloc (.cells #[] e)) [w.heap.size] (.slice (some ⟨w.heap.size, 0, none⟩) 0 0) [] := by
  refine ⟨[], [], trivial, ⟨by simp, .inr ⟨w.heap.size, 0, #[], rfl, Nat.zero_le _, heap_alloc_new w _, Nat.le_refl _, Nat.zero_le _, by simp, by simp⟩⟩, by simp [Value.ownBlock], by simp, by simp⟩
theorem ow_empty' {α : Type} (d : Kd α) (e : TypeId) (w : World) {g : Nat} (h : g = w.heap.size) : Ow d e (w.alloc (.cells #[] e)) [g] (.slice (some ⟨g, 0, none⟩) 0 0) [] := by
  subst h; exact ow_empty d e w
/-- All old blocks but some are as they were. -/
structure Keep (F : List Nat) (w w' : World) : Prop where
  os : w'.os = w.os
  tape : w'.tape = w.tape
  output : w'.output = w.output
  size : w.heap.size ≤ w'.heap.size
  block : ∀ k, k < w.heap.size → k ∉ F → w'.heap[k]? = w.heap[k]?

theorem Keep.refl (F : List Nat) (w : World) : Keep F w w := ⟨rfl, rfl, rfl, Nat.le_refl _, fun _ _ _ => rfl⟩
theorem Keep.of_below {F : List Nat} {w w' : World} (h : Below w.heap.size w w') : Keep F w w' := ⟨h.os, h.tape, h.output, h.size, fun k hk _ => h.block k hk⟩
theorem Keep.trans {F : List Nat} {a b c : World} (h : Keep F a b) (k : Keep F b c) : Keep F a c :=
  ⟨k.os.trans h.os, k.tape.trans h.tape, k.output.trans h.output, Nat.le_trans h.size k.size, fun i hi hn => (k.block i (Nat.lt_of_lt_of_le hi h.size) hn).trans (h.block i hi hn)⟩
theorem Keep.mono {F G : List Nat} {w w' : World} (h : Keep F w w') (hs : ∀ k ∈ F, k ∈ G) : Keep G w w' := ⟨h.os, h.tape, h.output, h.size, fun k hk hn => h.block k hk (fun hm => hn (hs k hm))⟩
theorem Keep.below {F : List Nat} {w w' : World} {B : Nat} (h : Keep F w w') (hF : ∀ k ∈ F, B ≤ k) (hB : B ≤ w.heap.size) : Below B w w' :=
  ⟨h.os, h.tape, h.output, h.size, fun k hk => h.block k (by omega) (fun hm => by have := hF k hm; omega)⟩
theorem Keep.nil {w w' : World} (h : Keep [] w w') : Below w.heap.size w w' := h.below (fun k hk => by cases hk) (Nat.le_refl _)
theorem Keep.cell {F : List Nat} {w w' : World} {a : Addr} {v : Value} (h : Keep F w w') (hn : a.block ∉ F) (hc : w.cell? a = some v) : w'.cell? a = some v :=
  (World.cell?_of_block (h.block a.block (World.block_lt_of_cell? w a hc) hn)).trans hc
theorem Keep.alloc (F : List Nat) (w : World) (o : Obj) : Keep F w (w.alloc o) := .of_below ((Below.refl _ _).alloc (Nat.le_refl _) o)
theorem Keep.drew (F : List Nat) (w : World) : Keep F w w.drew := .of_below ((Below.refl _ _).drew)
theorem Keep.setCell {F : List Nat} {w : World} {a : Addr} (hm : a.block ∈ F) (u : Value) : Keep F w (w.setCell a u) :=
  ⟨rfl, rfl, rfl, by simp [World.setCell], fun k _ hn => Below.heap_setCell _ _ _ _ (fun e => hn (e ▸ hm))⟩
theorem Keep.grown {w w' : World} {r : Option Nat} {F : List Nat} (h : w.grownBy w' r) (hr : ∀ k, r = some k → k ∈ F) : Keep F w w' :=
  ⟨h.os, h.tape, h.output, h.size, fun k hk hn => h.block k hk (fun e => hn (hr k e.symm))⟩
theorem Below.step {a b c : World} (h : Below a.heap.size a b) (k : Below b.heap.size b c) : Below a.heap.size a c := h.trans (k.mono h.size)
theorem Below.keep {F : List Nat} {B : Nat} {a w w' : World} (h : Below B a w) (k : Keep F w w') (hF : ∀ k ∈ F, B ≤ k) (hB : B ≤ w.heap.size) : Below B a w' := h.trans (k.below hF hB)

section
variable {α : Type} {d : Kd α} {w w' : World} {F G : List Nat}
theorem Ow.kept {e : TypeId} {v : Value} {xs : List α} (hk : Keep G w w') (hd : ∀ k ∈ F, k ∉ G) (h : Ow d e w F v xs) : Ow d e w' F v xs :=
  h.keep (fun k h1 => hk.block k (h.lt k h1) (hd k h1)) hk.size
end

section
variable {α : Type} {d : Kd α} {w : World} {F : List Nat} {e : TypeId} {v : Value} {xs : List α}
theorem Ow.setCell_ne (h : Ow d e w F v xs) {a : Addr} (hn : a.block ∉ F) (u : Value) : Ow d e (w.setCell a u) F v xs :=
  h.kept (G := [a.block]) (Keep.setCell (by simp) u) (fun k hk => by simp; intro e; exact hn (e ▸ hk))
theorem Ow.alloc (h : Ow d e w F v xs) (o : Obj) : Ow d e (w.alloc o) F v xs := h.below ((Below.refl _ _).alloc (Nat.le_refl _) o)
theorem Ow.drew (h : Ow d e w F v xs) : Ow d e w.drew F v xs := h.below (Below.refl _ _).drew
theorem ne_of_new {F : List Nat} {B b : Nat} (h : ∀ k ∈ F, B ≤ k) (hb : b < B) : b ∉ F := fun hm => by have := h b hm; omega
end

theorem Keep.afterAlloc {W w1 : World} {o : Obj} {g : Nat} (hk : Keep [g] (W.alloc o) w1) (hg : g = W.heap.size) : Below W.heap.size W w1 := by
  subst hg
  exact ((Below.refl _ W).alloc (Nat.le_refl _) o).trans (hk.below (by simp) (by simp))

/-- What is known of a slice type and its elements' type. -/
structure SlTy {α : Type} (P : Program) (t e : TypeId) (d : Kd α) (x0 : α) (by_ : Nat) : Prop where
  under : P.underlying t = some (.slice e)
  info : ∃ i z, P.info? e = some i ∧ i.zero = some z ∧ i.size = d.sz ∧ i.bytes = by_ ∧ z.cells.size = d.sz ∧ ∀ w, d.O w [] x0 z.cells.toList
  pos : 0 < d.sz

theorem els_replicate {α : Type} {d : Kd α} {x0 : α} {cs : List Value} {w : World} (h : d.O w [] x0 cs) : ∀ n, Els d w (List.replicate n x0) (List.replicate n []) (List.replicate n cs)
  | 0 => trivial
  | n + 1 => ⟨h, els_replicate h n⟩

theorem flatten_replicate_nil : ∀ n : Nat, (List.replicate n ([] : List Nat)).flatten = []
  | 0 => rfl
  | n + 1 => by simp [List.replicate_succ]

theorem madeCells_eq (z : Array Value) : ∀ n, (madeCells z (n * z.size)).toList = (List.replicate n z.toList).flatten := by
  intro n
  apply List.ext_getElem?
  intro i
  by_cases hi : i < n * z.size
  · have hz : 0 < z.size := by rcases Nat.eq_zero_or_pos z.size with h | h; simp [h] at hi; exact h
    have hl : ∀ cs ∈ List.replicate n z.toList, cs.length = z.size := fun cs hcs => by rw [List.eq_of_mem_replicate hcs]; simp
    have h1 := flatten_at (n := z.size) hl (i / z.size) z.toList (by
      have : i / z.size < n := (Nat.div_lt_iff_lt_mul hz).2 hi
      simp [this]) (i % z.size) (z[i % z.size]'(Nat.mod_lt _ hz)) (by simp [Nat.mod_lt _ hz])
    rw [show i / z.size * z.size + i % z.size = i by rw [Nat.mul_comm]; exact Nat.div_add_mod _ _] at h1
    rw [h1]
    simp only [madeCells]
    simp [hi, Nat.mod_lt _ hz]
  · have h2 : (List.replicate n z.toList).flatten.length = n * z.size := by simp
    rw [List.getElem?_eq_none (by simp [madeCells]; omega), List.getElem?_eq_none (by omega)]

section
variable {α : Type} {d : Kd α} {P : Program} {t e : TypeId} {x0 : α} {by_ : Nat} {w : World}
variable {ops : Array Oper} {rest : List Oper} {o : Oper} {a : Act} {Q : Exit → Act → World → Prop}

/-- make([]T, n): a new row of zero values. -/
theorem wp_make (T : SlTy P t e d x0 by_) (hg : o.guard = none) (l c : Operand) (hop : o.op = Op.makeSlice t l c) (kl kc : IntKind) (L : Int) (n : Nat) (hl : a.eval l = .int kl L) (hc : a.eval c = .int kc L) (hL : L = (n : Int)) (hb : by_ * n ≤ 281474976710656) (hn : n ≤ maxLen)
    (hK : ∀ w', Ow d e w' [w.heap.size] (.slice (some ⟨w.heap.size, 0, none⟩) n n) (List.replicate n x0) → Below w.heap.size w w' → w.heap.size < w'.heap.size → wpList P ops Q rest (a.put o.dst (.slice (some ⟨w.heap.size, 0, none⟩) n n)) w') :
    wpList P ops Q (o :: rest) a w := by
  obtain ⟨i, z, h2, h3, h4, h5, h6, h7⟩ := T.info
  refine wpList_make_full w hg l c t hop 0 e i z d.sz T.under h2 h3 h4 kl kc L L n hl hc hL hL (by rw [h5]; exact hb) hn (Nat.zero_le _) ?_
  intro w' ho hgr
  have hlt : w.heap.size < w'.heap.size := by
    rcases ho.2 with ⟨h, _⟩ | ⟨g, cap, cur, hv, _, hh, _⟩
    · cases h
    · cases hv; exact (Array.getElem?_eq_some_iff.1 hh).1
  refine hK w' ⟨_, _, els_replicate (h7 w') n, ?_, ?_, ?_, ?_⟩ ((Keep.grown (F := []) hgr (fun k hk => by cases hk)).nil) hlt
  · rw [List.length_replicate, ← madeCells_eq]
    rw [h6]; exact ho
  · rw [flatten_replicate_nil]; rfl
  · simp
  · simp [hlt]

/-- append(out, x), out of the call's own: the new row owns what both owned. -/
theorem wp_append1 (T : SlTy P t e d x0 by_) (hgd : o.guard = none) (s x : Operand) (ho : o.op = .call { callee := .builtin .append, args := #[s, x], argTypes := #[t, t] })
    {F : List Nat} {v : Value} {xs : List α} (hs : a.eval s = v) (hown : Ow d e w F v xs) {ad : Addr} (hx : a.eval x = .slice (some ad) 1 1) {y : α} {Fy : List Nat} {cs : List Value} (hO : d.O w Fy y cs) (hcs : CellsAt w ad 0 cs) (hdis : ∀ k ∈ Fy, k ∉ F)
    (h63 : xs.length + 1 ≤ maxLen) (hb : (xs.length + 1) * by_ ≤ 140737488355328)
    (h : ∀ v' w' F', Ow d e w' F' v' (xs ++ [y]) → (∀ k ∈ F', k ∈ F ∨ k ∈ Fy ∨ w.heap.size ≤ k) → Keep F w w' → wpList P ops Q rest (a.put o.dst v') w') : wpList P ops Q (o :: rest) a w := by
  obtain ⟨i, z, h2, h3, h4, h5, h6, _⟩ := T.info
  obtain ⟨Fs, css, hE, hr, hF, hn, hlt⟩ := hown
  have hlc := d.hlen (d.hOC hO)
  refine wpList_append_own_at w hgd s x t ho 0 e i z d.sz by_ T.under h2 h3 h4 h5 h6 T.pos v xs.length css.flatten hs hr ad 1 1 cs hx (by rw [hlc]; omega) (fun j u hu => by have := hcs j u hu; rwa [Nat.zero_add] at this) (d.hone (d.hOC hO)) h63 hb (Nat.zero_le _) ?_
  intro v' w' hr' hgr _ hblk
  have hkeep : Keep F w w' := Keep.grown hgr (fun k hk => by rw [hF]; simp [hk])
  have hFy : ∀ k ∈ Fy, w'.heap[k]? = w.heap[k]? := fun k hk => hkeep.block k (d.hOlt hO k hk) (hdis k hk)
  have hFs : ∀ k ∈ Fs.flatten, w'.heap[k]? = w.heap[k]? := fun k hk => hgr.block k (hlt k (by rw [hF]; simp only [List.mem_append]; exact .inr hk)) (fun e => by
    rw [hF] at hn
    have := (List.nodup_append.1 hn).2.2 k (by rw [← e]; simp) k hk
    exact this rfl)
  have hE' : Els d w' (xs ++ [y]) (Fs ++ [Fy]) (css ++ [cs]) := (hE.keep hFs).append ⟨d.hOkeep hFy hO, trivial⟩
  have hpos : v'.ownBlock = none → False := by
    intro hv
    rcases hr'.2 with ⟨_, h0⟩ | ⟨g, cap, cur, rfl, _⟩
    · omega
    · simp [Value.ownBlock] at hv
  refine h v' w' (v'.ownBlock.toList ++ (Fs ++ [Fy]).flatten) ⟨Fs ++ [Fy], css ++ [cs], hE', ?_, rfl, ?_, ?_⟩ ?_ hkeep
  · rw [List.length_append, List.flatten_append]; simpa using hr'
  · have hFyn := d.hOnd hO
    have hFsn : Fs.flatten.Nodup := by rw [hF] at hn; exact (List.nodup_append.1 hn).2.1
    have hmid : (Fs ++ [Fy]).flatten.Nodup := by
      rw [List.flatten_append]
      refine List.nodup_append.2 ⟨hFsn, by simpa using hFyn, fun k hk j hj e => ?_⟩
      subst e
      simp at hj
      exact hdis k hj (by rw [hF]; simp only [List.mem_append]; exact .inr hk)
    refine List.nodup_append.2 ⟨by cases v'.ownBlock <;> simp, hmid, fun k hk j hj e => ?_⟩
    subst e
    have hkm : k ∈ Fs.flatten ∨ k ∈ Fy := by rw [List.flatten_append] at hj; simpa using hj
    have hkl : k < w.heap.size := by
      rcases hkm with h | h
      · exact hlt k (by rw [hF]; simp only [List.mem_append]; exact .inr h)
      · exact d.hOlt hO k h
    rcases hblk with hb' | hb'
    · rw [hb'] at hk
      rcases hkm with h | h
      · rw [hF] at hn; exact (List.nodup_append.1 hn).2.2 k hk k h rfl
      · exact hdis k h (by rw [hF]; simp only [List.mem_append]; exact .inl hk)
    · rw [hb'] at hk; simp at hk; omega
  · intro k hk
    rcases List.mem_append.1 hk with hk | hk
    · rcases hr'.2 with ⟨h0, _⟩ | ⟨g, cap, cur, hv, _, hh, _⟩
      · subst h0; simp [Value.ownBlock] at hk
      · subst hv; simp [Value.ownBlock] at hk; subst hk; exact (Array.getElem?_eq_some_iff.1 hh).1
    · have hkm : k ∈ Fs.flatten ∨ k ∈ Fy := by rw [List.flatten_append] at hk; simpa using hk
      refine Nat.lt_of_lt_of_le ?_ hkeep.size
      rcases hkm with h | h
      · exact hlt k (by rw [hF]; simp only [List.mem_append]; exact .inr h)
      · exact d.hOlt hO k h
  · intro k hk
    rcases List.mem_append.1 hk with hk | hk
    · rcases hblk with hb' | hb'
      · rw [hb'] at hk; exact .inl (by rw [hF]; simp only [List.mem_append]; exact .inl hk)
      · rw [hb'] at hk; simp at hk; exact .inr (.inr (by omega))
    · have hkm : k ∈ Fs.flatten ∨ k ∈ Fy := by rw [List.flatten_append] at hk; simpa using hk
      rcases hkm with h | h
      · exact .inl (by rw [hF]; simp only [List.mem_append]; exact .inr h)
      · exact .inr (.inl h)
end

section
variable {α : Type} {enc : α → List Value} {m : Nat} {hl : ∀ x, (enc x).length = m} {h1 : ∀ x, ∀ u ∈ enc x, u.oneCell' = true}

theorem els_flat (w : World) : ∀ ys : List α, Els (kFlat enc m hl h1) w ys (List.replicate ys.length []) (ys.map enc)
  | [] => trivial
  | _ :: ys => ⟨⟨rfl, rfl⟩, els_flat w ys⟩

theorem els_flat_inv {w : World} : ∀ {ys : List α} {Fs css}, Els (kFlat enc m hl h1) w ys Fs css → Fs.flatten = [] ∧ css = ys.map enc
  | [], [], [], _ => ⟨rfl, rfl⟩
  | _ :: ys, F :: Fs, cs :: css, h => by
    obtain ⟨a, b⟩ := els_flat_inv h.2
    obtain ⟨c, d⟩ := h.1
    subst c d
    simp [a, b]

/-- An owned row of flat data is no more than its block. -/
theorem ow_flat {e : TypeId} {w : World} {F : List Nat} {v : Value} {xs : List α} (h : Ow (kFlat enc m hl h1) e w F v xs) :
    w.ownsRow 0 e m v xs.length (xs.flatMap enc) ∧ F = v.ownBlock.toList := by
  obtain ⟨Fs, css, hE, ho, hF, _⟩ := h
  obtain ⟨a, b⟩ := els_flat_inv hE
  rw [b] at ho; rw [a] at hF
  exact ⟨by rw [List.flatMap_def]; exact ho, by simpa using hF⟩

theorem ow_of_row {e : TypeId} {w : World} {v : Value} {n : Nat} {xs : List α} (hn : n = xs.length) (h : w.ownsRow 0 e m v n (xs.flatMap enc)) : Ow (kFlat enc m hl h1) e w v.ownBlock.toList v xs := by
  subst hn
  refine ⟨_, _, els_flat w xs, by rw [← List.flatMap_def]; exact h, by simp [flatten_replicate_nil], by cases v.ownBlock <;> simp, fun k hk => ?_⟩
  rcases h.2 with ⟨h0, _⟩ | ⟨g, cap, cur, hv, _, hh, _⟩
  · subst h0; simp [Value.ownBlock] at hk
  · subst hv; simp [Value.ownBlock] at hk; subst hk; exact (Array.getElem?_eq_some_iff.1 hh).1

variable {P : Program} {t e : TypeId} {x0 : α} {by_ : Nat} {w : World}
variable {ops : Array Oper} {rest : List Oper} {o : Oper} {a : Act} {Q : Exit → Act → World → Prop}

theorem flatMap_cells (hl : ∀ x, (enc x).length = m) {ys : List α} {ad : Addr} (hm : 0 < m) (h : ∀ i x, ys[i]? = some x → CellsAt w ad (i * m) (enc x)) : ∀ j u, (ys.flatMap enc)[j]? = some u → w.cell? (ad.add j) = some u := by
  intro j u hu
  have hlt : j < ys.length * m := by
    have := (List.getElem?_eq_some_iff.1 hu).1
    have e1 : (ys.flatMap enc).length = ys.length * m := by
      clear hu this h
      induction ys with
      | nil => simp
      | cons y ys ih => simp [ih, hl, Nat.add_mul]; omega
    omega
  have hi : j / m < ys.length := (Nat.div_lt_iff_lt_mul hm).2 hlt
  have hj : j % m < m := Nat.mod_lt _ hm
  have hq := flatten_at (n := m) (css := ys.map enc) (fun cs hcs => by obtain ⟨y, _, rfl⟩ := List.mem_map.1 hcs; exact hl y) (j / m) (enc ys[j / m]) (by simp [hi]) (j % m) ((enc ys[j / m])[j % m]'(by rw [hl]; exact hj)) (by simp)
  have he : j / m * m + j % m = j := by rw [Nat.mul_comm]; exact Nat.div_add_mod _ _
  rw [he, ← List.flatMap_def, hu] at hq
  have := h (j / m) ys[j / m] (by simp [hi]) (j % m) u (by rw [hq]; simp)
  rwa [he] at this

/-- append(out, ys...), flat data, out of the call's own, ys any row that is read. -/
theorem wp_appendR (T : SlTy P t e (kFlat enc m hl h1) x0 by_) (hgd : o.guard = none) (s x : Operand) (ho : o.op = .call { callee := .builtin .append, args := #[s, x], argTypes := #[t, t] })
    {F : List Nat} {v : Value} {xs ys : List α} (hs : a.eval s = v) (hown : Ow (kFlat enc m hl h1) e w F v xs) {A : Option Addr} {c n : Nat} (hx : a.eval x = .slice A n c) (hn : n = ys.length) (hr : Rd (kFlat enc m hl h1) w A c ys)
    (h63 : xs.length + ys.length ≤ maxLen) (hb : (xs.length + ys.length) * by_ ≤ 140737488355328)
    (h : ∀ v' w' F', Ow (kFlat enc m hl h1) e w' F' v' (xs ++ ys) → (∀ k ∈ F', k ∈ F ∨ w.heap.size ≤ k) → Keep F w w' → wpList P ops Q rest (a.put o.dst v') w') : wpList P ops Q (o :: rest) a w := by
  obtain ⟨i, z, h2, h3, h4, h5, h6, _⟩ := T.info
  obtain ⟨hrow, hF⟩ := ow_flat hown
  subst hn
  cases A with
  | none =>
    have h0 : ys = [] := by
      cases ys with
      | nil => rfl
      | cons y ys => obtain ⟨ad, h, _⟩ := hr.2.2.1 0 y rfl; cases h
    subst h0
    obtain rfl := hr.2.2.2 rfl
    refine wpList_append_own_none hgd s x t ho 0 e i m T.under h2 v xs.length (xs.flatMap enc) hs hrow hx ?_
    exact h v w F (by simpa using hown) (fun k hk => .inl hk) (Keep.refl _ _)
  | some ad =>
    have hcell : ∀ j u, (ys.flatMap enc)[j]? = some u → w.cell? (ad.add j) = some u := flatMap_cells hl T.pos (fun i x hx => by
      obtain ⟨ad', e1, cs, e2, e3⟩ := hr.2.2.1 i x hx
      cases e1; rw [show cs = enc x from e2] at e3; exact e3)
    have hlen : (ys.flatMap enc).length = ys.length * m := by
      clear hcell hr h63 hb h hx
      induction ys with
      | nil => simp
      | cons y ys ih => simp [ih, hl, Nat.add_mul]; omega
    refine wpList_append_own_at w hgd s x t ho 0 e i z m by_ T.under h2 h3 h4 h5 h6 T.pos v xs.length (xs.flatMap enc) hs hrow ad ys.length c (ys.flatMap enc) hx hlen hcell (fun u hu => by obtain ⟨y, _, hy⟩ := List.mem_flatMap.1 hu; exact h1 y u hy) h63 hb (Nat.zero_le _) ?_
    intro v' w' hr' hgr _ hblk
    refine h v' w' v'.ownBlock.toList (ow_of_row (n := xs.length + ys.length) (by simp) (by rw [List.flatMap_append]; exact hr')) (fun k hk => ?_) (Keep.grown hgr (fun k hk => by rw [hF]; simp [hk]))
    rcases hblk with hb' | hb'
    · rw [hb'] at hk; exact .inl (by rw [hF]; exact hk)
    · rw [hb'] at hk; simp at hk; exact .inr (by omega)
end

/-- Cells stored one behind the other. -/
def setAll : World → Nat → Nat → List Value → World
  | w, _, _, [] => w
  | w, g, o, c :: cs => setAll (w.setCell ⟨g, o, none⟩ c) g (o + 1) cs
def setArr : Array Value → Nat → List Value → Array Value
  | cur, _, [] => cur
  | cur, o, c :: cs => setArr (cur.setIfInBounds o c) (o + 1) cs
theorem setArr_size : ∀ (cs : List Value) (cur : Array Value) (o : Nat), (setArr cur o cs).size = cur.size
  | [], _, _ => rfl
  | c :: cs, cur, o => by rw [setArr, setArr_size cs]; simp
theorem setArr_get : ∀ (cs : List Value) (cur : Array Value) (o i : Nat), i < cur.size → (setArr cur o cs)[i]? = if o ≤ i ∧ i < o + cs.length then cs[i - o]? else cur[i]?
  | [], cur, o, i, _ => by rw [setArr, if_neg (by simp only [List.length_nil]; omega)]
  | c :: cs, cur, o, i, hi => by
    rw [setArr, setArr_get cs _ (o + 1) i (by simpa using hi)]
    by_cases h1 : o + 1 ≤ i ∧ i < o + 1 + cs.length
    · rw [if_pos h1, if_pos (by simp; omega)]
      rw [show i - o = (i - (o + 1)) + 1 by omega]; simp
    · rw [if_neg h1]
      by_cases h2 : o = i
      · subst h2
        rw [if_pos (by simp)]; simp [hi]
      · rw [if_neg (by simp; omega)]; simp [Array.getElem?_setIfInBounds, h2]
theorem setAll_heap : ∀ (cs : List Value) (w : World) (g o : Nat) {cur : Array Value} {e : TypeId} {fz : Nat × Nat}, w.heap[g]? = some (.cells cur e fz) → (setAll w g o cs).heap[g]? = some (.cells (setArr cur o cs) e fz)
  | [], _, _, _, _, _, _, h => h
  | c :: cs, w, g, o, cur, e, fz, h => by
    refine setAll_heap cs (w.setCell ⟨g, o, none⟩ c) g (o + 1) ?_
    simp only [World.setCell, Array.getElem?_modify, if_true, h]
    rfl
theorem setAll_keep : ∀ (cs : List Value) (w : World) (g o : Nat), Keep [g] w (setAll w g o cs)
  | [], w, _, _ => Keep.refl _ _
  | c :: cs, w, g, o => (Keep.setCell (a := ⟨g, o, none⟩) (by simp) c).trans (setAll_keep cs _ g (o + 1))
theorem setAll_size : ∀ (cs : List Value) (w : World) (g o : Nat), (setAll w g o cs).heap.size = w.heap.size
  | [], _, _, _ => rfl
  | c :: cs, w, g, o => by rw [setAll, setAll_size cs]; simp [World.setCell]

theorem flatten_get {n : Nat} (hn : 0 < n) : ∀ {css : List (List Value)}, (∀ cs ∈ css, cs.length = n) → ∀ i : Nat, css.flatten[i]? = (css[i / n]?).bind (·[i % n]?)
  | [], _, i => by simp
  | c0 :: css, hl, i => by
    have h0 : c0.length = n := hl _ (by simp)
    by_cases hi : i < n
    · rw [List.flatten_cons, List.getElem?_append_left (by omega), Nat.div_eq_of_lt hi, Nat.mod_eq_of_lt hi]; simp
    · rw [List.flatten_cons, List.getElem?_append_right (by omega), flatten_get hn (fun c hc => hl c (by simp [hc])) (i - c0.length), h0]
      have e1 : i / n = (i - n) / n + 1 := by
        have := Nat.sub_add_cancel (show n ≤ i by omega)
        rw [← this, Nat.add_div_right _ hn]; simp
      have e2 : i % n = (i - n) % n := by
        have := Nat.sub_add_cancel (show n ≤ i by omega)
        rw [← this, Nat.add_mod_right]; simp
      rw [e1, e2]; simp

theorem Els.set {α : Type} {d : Kd α} {w : World} {y : α} {Fy : List Nat} {cy : List Value} (hy : d.O w Fy y cy) : ∀ {xs : List α} {Fs css} (k : Nat), Els d w xs Fs css → Els d w (xs.set k y) (Fs.set k Fy) (css.set k cy)
  | [], [], [], _, _ => by simp [Els]
  | _ :: _, _ :: _, _ :: _, 0, h => ⟨hy, h.2⟩
  | _ :: _, _ :: _, _ :: _, k + 1, h => ⟨h.1, Els.set hy k h.2⟩

theorem flatten_disj : ∀ {Fs : List (List Nat)}, Fs.flatten.Nodup → ∀ {j k : Nat} {G H : List Nat}, j ≠ k → Fs[j]? = some G → Fs[k]? = some H → ∀ b ∈ G, b ∉ H
  | [], _, j, k, G, H, _, hG, _, _, _ => by simp at hG
  | F :: Fs, hn, 0, 0, G, H, h, _, _, _, _ => absurd rfl h
  | F :: Fs, hn, 0, k + 1, G, H, _, hG, hH, b, hb => fun hb' => by
    simp only [List.flatten_cons] at hn
    obtain rfl : F = G := by simpa using hG
    exact (List.nodup_append.1 hn).2.2 b hb b (List.mem_flatten.2 ⟨H, List.mem_of_getElem? (by simpa using hH), hb'⟩) rfl
  | F :: Fs, hn, j + 1, 0, G, H, _, hG, hH, b, hb => fun hb' => by
    simp only [List.flatten_cons] at hn
    obtain rfl : F = H := by simpa using hH
    exact (List.nodup_append.1 hn).2.2 b hb' b (List.mem_flatten.2 ⟨G, List.mem_of_getElem? (by simpa using hG), hb⟩) rfl
  | F :: Fs, hn, j + 1, k + 1, G, H, h, hG, hH, b, hb => by
    simp only [List.flatten_cons] at hn
    exact flatten_disj (j := j) (k := k) (List.nodup_append.1 hn).2.1 (by omega) (by simpa using hG) (by simpa using hH) b hb

theorem els_set_keep {α : Type} {d : Kd α} {w w' : World} {y : α} {Fy : List Nat} {cy : List Value} (hy : d.O w' Fy y cy) : ∀ {xs : List α} {Fs css} (k : Nat), (∀ (j : Nat) (G : List Nat), j ≠ k → Fs[j]? = some G → ∀ b ∈ G, w'.heap[b]? = w.heap[b]?) → Els d w xs Fs css → Els d w' (xs.set k y) (Fs.set k Fy) (css.set k cy)
  | [], [], [], _, _, _ => by simp [Els]
  | _ :: _, G :: Gs, _ :: _, 0, hk, h => ⟨hy, h.2.keep (fun b hb => by
      obtain ⟨H, hH, hbH⟩ := List.mem_flatten.1 hb
      obtain ⟨j, hj⟩ := List.getElem?_of_mem hH
      exact hk (j + 1) H (by omega) (by simpa using hj) b hbH)⟩
  | _ :: _, G :: Gs, _ :: _, k + 1, hk, h => ⟨d.hOkeep (fun b hb => hk 0 G (by omega) rfl b hb) h.1, els_set_keep hy k (fun j H hj hH => hk (j + 1) H (by omega) (by simpa using hH)) h.2⟩

theorem mem_flatten_set {F : List Nat} : ∀ {Fs : List (List Nat)} {k : Nat} {b : Nat}, b ∈ (Fs.set k F).flatten → b ∈ F ∨ b ∈ Fs.flatten
  | [], _, _, h => by simp at h
  | G :: Gs, 0, b, h => by simp at h; simp; rcases h with h | h; exact .inl h; exact .inr (.inr h)
  | G :: Gs, k + 1, b, h => by
    simp only [List.set_cons_succ, List.flatten_cons, List.mem_append] at h ⊢
    rcases h with h | h
    · exact .inr (.inl h)
    · rcases mem_flatten_set h with h | h
      · exact .inl h
      · exact .inr (.inr h)
theorem nodup_flatten_set {F : List Nat} (hF : F.Nodup) : ∀ {Fs : List (List Nat)} {k : Nat}, Fs.flatten.Nodup → (∀ b ∈ F, ∀ j G, j ≠ k → Fs[j]? = some G → b ∉ G) → (Fs.set k F).flatten.Nodup
  | [], _, _, _ => by simp
  | G :: Gs, 0, h, hd => by
    simp only [List.set_cons_zero, List.flatten_cons] at h ⊢
    have h' := List.nodup_append.1 h
    refine List.nodup_append.2 ⟨hF, h'.2.1, fun a ha b hb e => ?_⟩
    subst e
    obtain ⟨H, hH, haH⟩ := List.mem_flatten.1 hb
    obtain ⟨j, hj⟩ := List.getElem?_of_mem hH
    exact hd a ha (j + 1) H (by omega) (by simpa using hj) haH
  | G :: Gs, k + 1, h, hd => by
    simp only [List.set_cons_succ, List.flatten_cons] at h ⊢
    have h' := List.nodup_append.1 h
    refine List.nodup_append.2 ⟨h'.1, nodup_flatten_set hF h'.2.1 (fun b hb j H hj hH => hd b hb (j + 1) H (by omega) (by simpa using hH)), fun a ha b hb e => ?_⟩
    subst e
    rcases mem_flatten_set hb with hb | hb
    · exact hd a hb 0 G (by omega) rfl ha
    · exact h'.2.2 a ha a hb rfl

section
variable {α : Type} {d : Kd α} {w : World} {e : TypeId} {F : List Nat} {g n c : Nat} {xs : List α}
theorem Ow.head {A : Addr} (h : Ow d e w F (.slice (some A) n c) xs) : n = xs.length ∧ ∃ g, A = ⟨g, 0, none⟩ ∧ g ∈ F ∧ g < w.heap.size ∧ ∃ cur, w.heap[g]? = some (.cells cur e (0, 0)) ∧ cur.size = c * d.sz ∧ xs.length ≤ c := by
  obtain ⟨Fs, css, hE, ho, hF, hn, hlt⟩ := h
  rcases ho.2 with ⟨hv, _⟩ | ⟨g, cap, cur, hv, _, hg, h1, h2, h3, _⟩
  · cases hv
  · cases hv
    have hm : g ∈ F := by rw [hF]; simp [Value.ownBlock]
    exact ⟨rfl, g, rfl, hm, hlt g hm, cur, hg, h3, h1⟩
/-- The cells of a row of the call's own are not frozen. -/
theorem Ow.free (h : Ow d e w F (.slice (some ⟨g, 0, none⟩) n c) xs) (o : Nat) : w.frozen? ⟨g, o, none⟩ = false := by
  obtain ⟨_, g', hg, _, _, cur, hh, _⟩ := h.head
  cases hg
  simp [World.frozen?, hh]
/-- A store of one element into a row of the call's own. -/
theorem Ow.set (h : Ow d e w F (.slice (some ⟨g, 0, none⟩) n c) xs) (hd : 0 < d.sz) {k : Nat} (hk : k < xs.length) {y : α} {Fy : List Nat} {cy : List Value} (hy : d.O w Fy y cy) (hg : g ∉ Fy)
    (hdis : ∀ b ∈ Fy, b ∈ F → ∃ Fk cs, d.O w Fk xs[k] cs ∧ b ∈ Fk ∧ ∀ Fs css, Els d w xs Fs css → F = g :: Fs.flatten → ∀ j G, j ≠ k → Fs[j]? = some G → b ∉ G) :
    ∃ F', Ow d e (setAll w g (k * d.sz) cy) F' (.slice (some ⟨g, 0, none⟩) n c) (xs.set k y) ∧ ∀ b ∈ F', b ∈ F ∨ b ∈ Fy := by
  obtain ⟨Fs, css, hE, ho, hF, hn, hlt⟩ := h
  have hl := hE.lens
  have hF' : F = g :: Fs.flatten := by rw [hF]; simp [Value.ownBlock]
  have hgF : g ∉ Fs.flatten := by rw [hF'] at hn; exact (List.nodup_cons.1 hn).1
  have hkeep := setAll_keep cy w g (k * d.sz)
  have hflat : ∀ b ∈ Fs.flatten, (setAll w g (k * d.sz) cy).heap[b]? = w.heap[b]? := fun b hb => hkeep.block b (hlt b (by rw [hF']; simp [hb])) (by simp; intro e; exact hgF (e ▸ hb))
  have hy' : d.O (setAll w g (k * d.sz) cy) Fy y cy := d.hOkeep (fun b hb => hkeep.block b (d.hOlt hy b hb) (by simp; intro e; exact hg (e ▸ hb))) hy
  have hE' := Els.set hy' k (hE.keep hflat)
  have hnd : (Fs.set k Fy).flatten.Nodup := by
    refine nodup_flatten_set (d.hOnd hy) (by rw [hF'] at hn; exact (List.nodup_cons.1 hn).2) (fun b hb j G hj hG hbG => ?_)
    have hbF : b ∈ F := by rw [hF']; exact List.mem_cons_of_mem _ (List.mem_flatten.2 ⟨G, List.mem_of_getElem? hG, hbG⟩)
    obtain ⟨Fk, cs, _, _, h2⟩ := hdis b hb hbF
    exact h2 Fs css hE hF' j G hj hG hbG
  refine ⟨g :: (Fs.set k Fy).flatten, ⟨Fs.set k Fy, css.set k cy, hE', ?_, by simp [Value.ownBlock], ?_, ?_⟩, ?_⟩
  · refine ⟨?_, ?_⟩
    · rw [hE'.flat_len]
    · rcases ho.2 with ⟨hv, _⟩ | ⟨g', cap, cur, hv, hb, hg', h1, h2, h3, h4⟩
      · cases hv
      · cases hv
        refine .inr ⟨g, _, _, by simp, Nat.zero_le _, setAll_heap cy w g _ hg', by simpa using h1, h2, by rw [setArr_size]; exact h3, ?_⟩
        have hcy : cy.length = d.sz := d.hlen (d.hOC hy)
        have hall := hE.all_len
        apply List.ext_getElem?
        intro i
        rw [List.getElem?_take]
        by_cases hi : i < (xs.set k y).length * d.sz
        · rw [if_pos hi]
          have hi' : i < xs.length * d.sz := by simpa using hi
          have hic : i < cur.size := by rw [h3]; exact Nat.lt_of_lt_of_le hi' (Nat.mul_le_mul_right _ h1)
          rw [Array.getElem?_toList, setArr_get cy cur _ i hic, flatten_get hd (fun cs hcs => by
            rcases List.mem_or_eq_of_mem_set hcs with h | h
            · exact hall cs h
            · rw [h]; exact hcy) i, List.getElem?_set]
          by_cases hik : i / d.sz = k
          · have hm : i % d.sz < d.sz := Nat.mod_lt _ hd
            have hdm := Nat.div_add_mod i d.sz
            rw [hik, Nat.mul_comm] at hdm
            rw [if_pos (by omega), if_pos hik.symm, if_pos (by rw [hl.2]; omega)]
            simp only [Option.bind_some]
            congr 1; omega
          · have hcond : ¬ (k * d.sz ≤ i ∧ i < k * d.sz + cy.length) := by
              rintro ⟨ha, hb⟩
              rw [hcy] at hb
              exact hik (Nat.div_eq_of_lt_le ha (by rw [Nat.add_mul]; omega))
            rw [if_neg hcond, if_neg (fun e => hik e.symm), ← flatten_get hd hall i, ← h4, List.getElem?_take, if_pos hi', Array.getElem?_toList]
        · rw [if_neg hi]
          rw [List.getElem?_eq_none]
          rw [hE'.flat_len]; omega
  · rw [List.nodup_cons]
    refine ⟨fun hm => ?_, hnd⟩
    rcases mem_flatten_set hm with h | h
    · exact hg h
    · exact hgF h
  · intro b hb
    rw [setAll_size]
    rcases List.mem_cons.1 hb with rfl | hb
    · exact hlt _ (by rw [hF']; simp)
    · rcases mem_flatten_set hb with h | h
      · exact d.hOlt hy b h
      · exact hlt b (by rw [hF']; simp [h])
  · intro b hb
    rcases List.mem_cons.1 hb with rfl | hb
    · exact .inl (by rw [hF']; simp)
    · rcases mem_flatten_set hb with h | h
      · exact .inr h
      · exact .inl (by rw [hF']; simp [h])
/-- .. of an element that owns nothing that the row owns. -/
theorem Ow.set_new (h : Ow d e w F (.slice (some ⟨g, 0, none⟩) n c) xs) (hd : 0 < d.sz) {k : Nat} (hk : k < xs.length) {y : α} {Fy : List Nat} {cy : List Value} (hy : d.O w Fy y cy) (hdis : ∀ b ∈ Fy, b ∉ F) :
    ∃ F', Ow d e (setAll w g (k * d.sz) cy) F' (.slice (some ⟨g, 0, none⟩) n c) (xs.set k y) ∧ ∀ b ∈ F', b ∈ F ∨ b ∈ Fy :=
  h.set hd hk hy (fun hm => hdis g hm (by obtain ⟨_, g', e, hm', _⟩ := h.head; cases e; exact hm')) (fun b hb hF => (hdis b hb hF).elim)
end

section
variable {α : Type} {d : Kd α} {w : World} {e : TypeId} {F : List Nat} {g n c : Nat} {xs : List α}
theorem Ow.pos {A : Option Addr} (h : Ow d e w F (.slice A n c) xs) (hd : 0 < d.sz) (hx : 0 < xs.length) : ∃ g, A = some ⟨g, 0, none⟩ ∧ g ∈ F ∧ g < w.heap.size := by
  obtain ⟨b, o, rfl⟩ := h.rd.2.lit hd hx
  obtain ⟨_, g, hg, hm, hlt, _⟩ := h.head
  exact ⟨g, by rw [hg], hm, hlt⟩
theorem Keep.step {F : List Nat} {a b c : World} (h : Keep F a b) (k : Below b.heap.size b c) : Keep F a c := h.trans (.of_below k)
theorem Ow.cellAt (h : Ow d e w F (.slice (some ⟨g, 0, none⟩) n c) xs) (hd : 0 < d.sz) {k : Nat} (hk : k < xs.length) {j : Nat} (hj : j < d.sz) : ∃ u, w.cell? ⟨g, k * d.sz + j, none⟩ = some u := by
  obtain ⟨b, o, e1, _, cs, hc, hs⟩ := h.rd.2.at hd hk
  cases e1
  have hl := d.hlen hc
  have := hs j (cs[j]'(by omega)) (by simp)
  rw [Nat.zero_add] at this
  exact ⟨_, this⟩
/-- A store of one cell into a row of the call's own. -/
theorem Ow.setf (h : Ow d e w F (.slice (some ⟨g, 0, none⟩) n c) xs) (hd : 0 < d.sz) {k : Nat} (hk : k < xs.length) {j : Nat} (hj : j < d.sz) {y : α} {u : Value} (hy : ∀ Fk cs, d.O w Fk xs[k] cs → d.O w Fk y (cs.set j u)) :
    Ow d e (w.setCell ⟨g, k * d.sz + j, none⟩ u) F (.slice (some ⟨g, 0, none⟩) n c) (xs.set k y) := by
  obtain ⟨Fs, css, hE, ho, hF, hn, hlt⟩ := h
  have hl := hE.lens
  have hF' : F = g :: Fs.flatten := by rw [hF]; simp [Value.ownBlock]
  have hgF : g ∉ Fs.flatten := by rw [hF'] at hn; exact (List.nodup_cons.1 hn).1
  have hkeep : Keep [g] w (w.setCell ⟨g, k * d.sz + j, none⟩ u) := Keep.setCell (by simp) u
  have hflat : ∀ b ∈ Fs.flatten, (w.setCell ⟨g, k * d.sz + j, none⟩ u).heap[b]? = w.heap[b]? := fun b hb => hkeep.block b (hlt b (by rw [hF']; simp [hb])) (by simp; intro e; exact hgF (e ▸ hb))
  obtain ⟨Fk, cs, hFk, hcs, hO⟩ := hE.at k xs[k] (by simp [hk])
  have hy' := d.hOkeep (fun b hb => hflat b (List.mem_flatten.2 ⟨Fk, List.mem_of_getElem? hFk, hb⟩)) (hy Fk cs hO)
  have hE' := Els.set hy' k (hE.keep hflat)
  have hFset : Fs.set k Fk = Fs := by
    apply List.ext_getElem?
    intro i
    rw [List.getElem?_set]
    by_cases h : k = i
    · subst h; rw [if_pos rfl, if_pos (by rw [hl.1]; exact hk), hFk]
    · rw [if_neg h]
  rw [hFset] at hE'
  refine ⟨Fs, css.set k (cs.set j u), hE', ?_, hF, hn, fun b hb => by simpa [World.setCell] using hlt b hb⟩
  refine ⟨by rw [hE'.flat_len], ?_⟩
  rcases ho.2 with ⟨hv, _⟩ | ⟨g', cap, cur, hv, hb, hg', h1, h2, h3, h4⟩
  · cases hv
  · cases hv
    have hcs' : cs.length = d.sz := d.hlen (d.hOC hO)
    have hall := hE.all_len
    refine .inr ⟨g, _, cur.setIfInBounds (k * d.sz + j) u, by simp, Nat.zero_le _, ?_, by simpa using h1, h2, by simpa using h3, ?_⟩
    · simp only [World.setCell, Array.getElem?_modify, if_true, hg']; rfl
    · apply List.ext_getElem?
      intro i
      rw [List.getElem?_take]
      by_cases hi : i < (xs.set k y).length * d.sz
      · rw [if_pos hi]
        have hi' : i < xs.length * d.sz := by simpa using hi
        have hic : i < cur.size := by rw [h3]; exact Nat.lt_of_lt_of_le hi' (Nat.mul_le_mul_right _ h1)
        have hold : cur[i]? = (css[i / d.sz]?).bind (·[i % d.sz]?) := by
          rw [← flatten_get hd hall i, ← h4, List.getElem?_take, if_pos hi', Array.getElem?_toList]
        rw [Array.getElem?_toList, flatten_get hd (fun cs' hcs'' => by
          rcases List.mem_or_eq_of_mem_set hcs'' with h | h
          · exact hall cs' h
          · rw [h]; simpa using hcs') i, List.getElem?_set]
        by_cases hik : k = i / d.sz
        · have hdm := Nat.div_add_mod i d.sz
          rw [← hik, Nat.mul_comm] at hdm
          rw [if_pos hik, if_pos (by rw [hl.2]; exact hk)]
          simp only [Option.bind_some]
          rw [List.getElem?_set]
          by_cases hij : j = i % d.sz
          · rw [if_pos hij, if_pos (by rw [hcs']; exact hj)]
            rw [show k * d.sz + j = i by omega]; simp [hic]
          · rw [if_neg hij, Array.getElem?_setIfInBounds, if_neg (by omega), hold, ← hik, hcs]; rfl
        · rw [if_neg hik, Array.getElem?_setIfInBounds, if_neg (fun e => by
            apply hik
            rw [← e, Nat.mul_comm, Nat.mul_add_div hd, Nat.div_eq_of_lt hj]; rfl), hold]
      · rw [if_neg hi, List.getElem?_eq_none]
        rw [hE'.flat_len]; omega

/-- An element of a row of the call's own, and what becomes of the row if the element's own blocks are written. -/
theorem Ow.inner (h : Ow d e w F (.slice (some ⟨g, 0, none⟩) n c) xs) (hd : 0 < d.sz) {k : Nat} (hk : k < xs.length) :
    ∃ Fk cs, d.O w Fk xs[k] cs ∧ (∀ j u, cs[j]? = some u → w.cell? ⟨g, k * d.sz + j, none⟩ = some u) ∧ (∀ b ∈ Fk, b ∈ F) ∧ g ∉ Fk ∧
      ∀ w' y Fk', Keep Fk w w' → d.O w' Fk' y cs → (∀ b ∈ Fk', b ∈ Fk) → ∃ F', Ow d e w' F' (.slice (some ⟨g, 0, none⟩) n c) (xs.set k y) ∧ ∀ b ∈ F', b ∈ F := by
  have hcell := h.rd.2.at hd hk
  obtain ⟨Fs, css, hE, ho, hF, hn, hlt⟩ := h
  have hl := hE.lens
  have hF' : F = g :: Fs.flatten := by rw [hF]; simp [Value.ownBlock]
  have hgF : g ∉ Fs.flatten := by rw [hF'] at hn; exact (List.nodup_cons.1 hn).1
  obtain ⟨Fk, cs, hFk, hcs, hO⟩ := hE.at k xs[k] (by simp [hk])
  have hsub : ∀ b ∈ Fk, b ∈ Fs.flatten := fun b hb => List.mem_flatten.2 ⟨Fk, List.mem_of_getElem? hFk, hb⟩
  refine ⟨Fk, cs, hO, ?_, fun b hb => by rw [hF']; simp [hsub b hb], fun hg => hgF (hsub g hg), ?_⟩
  · intro j u hu
    have hfl := ho.cells (g := g) rfl _ _ (flatten_at hE.all_len k cs hcs j u hu)
    rwa [add_lit, Nat.zero_add] at hfl
  · intro w' y Fk' hkeep hy hsub'
    have hFsn : Fs.flatten.Nodup := by rw [hF'] at hn; exact (List.nodup_cons.1 hn).2
    have hoth : ∀ (j : Nat) (G : List Nat), j ≠ k → Fs[j]? = some G → ∀ b ∈ G, b ∉ Fk := by
      intro j G hj hG b hb hbk
      exact flatten_disj hFsn hj hG hFk b hb hbk
    have hE' : Els d w' (xs.set k y) (Fs.set k Fk') (css.set k cs) := els_set_keep hy k (fun j G hj hG b hb => hkeep.block b (hlt b (by rw [hF']; simp only [List.mem_cons]; exact .inr (List.mem_flatten.2 ⟨G, List.mem_of_getElem? hG, hb⟩))) (hoth j G hj hG b hb)) hE
    have hcset : css.set k cs = css := by
      apply List.ext_getElem?
      intro i
      rw [List.getElem?_set]
      by_cases h : k = i
      · subst h; rw [if_pos rfl, if_pos (by rw [hl.2]; exact hk), hcs]
      · rw [if_neg h]
    rw [hcset] at hE'
    refine ⟨g :: (Fs.set k Fk').flatten, ⟨Fs.set k Fk', css, hE', ?_, by simp [Value.ownBlock], ?_, ?_⟩, ?_⟩
    · refine ⟨by simpa using ho.1, ?_⟩
      rcases ho.2 with ⟨hv, _⟩ | ⟨g', cap, cur, hv, hb, hg', h1, h2, h3, h4⟩
      · cases hv
      · cases hv
        refine .inr ⟨g, _, cur, by simp, Nat.zero_le _, (hkeep.block g (hlt g (by rw [hF']; simp)) (fun hg => hgF (hsub g hg))).trans hg', by simpa using h1, h2, h3, by simpa using h4⟩
    · rw [List.nodup_cons]
      refine ⟨fun hm => ?_, nodup_flatten_set (d.hOnd hy) hFsn (fun b hb j G hj hG hbG => hoth j G hj hG b hbG (hsub' b hb))⟩
      rcases mem_flatten_set hm with h | h
      · exact hgF (hsub g (hsub' g h))
      · exact hgF h
    · intro b hb
      refine Nat.lt_of_lt_of_le ?_ hkeep.size
      rcases List.mem_cons.1 hb with rfl | hb
      · exact hlt _ (by rw [hF']; simp)
      · rcases mem_flatten_set hb with h | h
        · exact hlt b (by rw [hF']; simp [hsub b (hsub' b h)])
        · exact hlt b (by rw [hF']; simp [h])
    · intro b hb
      rcases List.mem_cons.1 hb with rfl | hb
      · rw [hF']; simp
      · rcases mem_flatten_set hb with h | h
        · rw [hF']; simp [hsub b (hsub' b h)]
        · rw [hF']; simp [h]
end

/-- Marks in a list: each element's mark, and how many numbers it takes. -/
def mkL {α : Type} (mk : α → Int → α) (cn : α → Int) : List α → Int → List α
  | [], _ => []
  | x :: xs, k => mk x k :: mkL mk cn xs (k + cn x)
def cnL {α : Type} (cn : α → Int) : List α → Int
  | [] => 0
  | x :: xs => cn x + cnL cn xs
section
variable {α : Type} {mk : α → Int → α} {cn : α → Int}
theorem mkL_length : ∀ (xs : List α) (k : Int), (mkL mk cn xs k).length = xs.length
  | [], _ => rfl
  | x :: xs, k => by simp [mkL, mkL_length xs]
theorem cnL_take_succ : ∀ (xs : List α) {i : Nat} (hi : i < xs.length), cnL cn (xs.take (i + 1)) = cnL cn (xs.take i) + cn xs[i]
  | x :: xs, 0, _ => by simp [cnL]
  | x :: xs, i + 1, hi => by
    have := cnL_take_succ xs (i := i) (by simpa using hi)
    simp only [List.take_succ_cons, cnL, this, List.getElem_cons_succ]; omega
theorem mkL_get : ∀ (xs : List α) (k : Int) {i : Nat} (hi : i < xs.length), (mkL mk cn xs k)[i]'(by rw [mkL_length]; exact hi) = mk xs[i] (k + cnL cn (xs.take i))
  | x :: xs, k, 0, _ => by simp [mkL, cnL]
  | x :: xs, k, i + 1, hi => by
    have := mkL_get xs (k + cn x) (i := i) (by simpa using hi)
    simp only [mkL, List.getElem_cons_succ, this, List.take_succ_cons, cnL]
    congr 1; omega
/-- The row when i elements are marked. -/
def mkTo (mk : α → Int → α) (cn : α → Int) (xs : List α) (k : Int) (i : Nat) : List α := (mkL mk cn xs k).take i ++ xs.drop i
theorem mkTo_zero (xs : List α) (k : Int) : mkTo mk cn xs k 0 = xs := by simp [mkTo]
theorem mkTo_all (xs : List α) (k : Int) : mkTo mk cn xs k xs.length = mkL mk cn xs k := by simp [mkTo, List.take_of_length_le, mkL_length]
theorem mkTo_length (xs : List α) (k : Int) {i : Nat} (hi : i ≤ xs.length) : (mkTo mk cn xs k i).length = xs.length := by simp [mkTo, mkL_length]; omega
theorem mkTo_get (xs : List α) (k : Int) {i : Nat} (hi : i < xs.length) : (mkTo mk cn xs k i)[i]'(by rw [mkTo_length _ _ (by omega)]; exact hi) = xs[i] := by
  simp only [mkTo]
  rw [List.getElem_append_right (by rw [List.length_take, mkL_length]; omega)]
  simp [mkL_length, Nat.min_eq_left (Nat.le_of_lt hi)]
theorem mkTo_succ (xs : List α) (k : Int) {i : Nat} (hi : i < xs.length) : (mkTo mk cn xs k i).set i (mk xs[i] (k + cnL cn (xs.take i))) = mkTo mk cn xs k (i + 1) := by
  have hl : i < (mkL mk cn xs k).length := by rw [mkL_length]; exact hi
  simp only [mkTo]
  rw [List.set_append_right _ _ (by rw [List.length_take]; omega), List.take_succ_eq_append_getElem hl, mkL_get _ _ hi]
  have : i - ((mkL mk cn xs k).take i).length = 0 := by rw [List.length_take]; omega
  rw [this, List.drop_eq_getElem_cons hi, List.set_cons_zero, List.append_assoc]; rfl
theorem cnL_nonneg (h : ∀ x, 0 ≤ cn x) : ∀ xs : List α, 0 ≤ cnL cn xs
  | [] => Int.le_refl _
  | x :: xs => by have := h x; have := cnL_nonneg h xs; simp only [cnL]; omega
theorem cnL_take_le (h : ∀ x, 0 ≤ cn x) : ∀ (xs : List α) (i : Nat), cnL cn (xs.take i) ≤ cnL cn xs
  | [], i => by simp
  | x :: xs, 0 => cnL_nonneg h _
  | x :: xs, i + 1 => by have := cnL_take_le h xs i; simp only [List.take_succ_cons, cnL]; omega
end

/-- What stays in view of a world in which some blocks were written. -/
theorem Keep.cells {F : List Nat} {w w' : World} (h : Keep F w w') : ∀ a : Addr, a.block < w.heap.size → a.block ∉ F → w'.cell? a = w.cell? a := fun a ha hn => World.cell?_of_block (h.block a.block ha hn)
theorem Keep.frozens {F : List Nat} {w w' : World} (h : Keep F w w') : ∀ a : Addr, a.block < w.heap.size → a.block ∉ F → w'.frozen? a = w.frozen? a := fun a ha hn => World.frozen?_of_block (h.block a.block ha hn)
section
variable {α : Type} {enc : α → List Value} {m : Nat} {hl : ∀ x, (enc x).length = m} {h1 : ∀ x, ∀ u ∈ enc x, u.oneCell' = true}
variable {P : Program} {t e : TypeId} {x0 : α} {by_ : Nat} {w : World}
variable {ops : Array Oper} {rest : List Oper} {o : Oper} {a : Act} {Q : Exit → Act → World → Prop}
theorem wp_appR (T : SlTy P t e (kFlat enc m hl h1) x0 by_) (hgd : o.guard = none) (s x : Operand) (ho : o.op = .call { callee := .builtin .append, args := #[s, x], argTypes := #[t, t] })
    {F : List Nat} {v : Value} {xs ys : List α} (hs : a.eval s = v) (hown : Ow (kFlat enc m hl h1) e w F v xs) {A : Option Addr} {c n : Nat} (hx : a.eval x = .slice A n c) (hn : n = ys.length) (hr : Rd (kFlat enc m hl h1) w A c ys)
    (h63 : xs.length + ys.length ≤ maxLen) (hb : (xs.length + ys.length) * by_ ≤ 140737488355328)
    (h : ∀ A' c' w' F', Ow (kFlat enc m hl h1) e w' F' (.slice A' (xs.length + ys.length) c') (xs ++ ys) → (∀ k ∈ F', k ∈ F ∨ w.heap.size ≤ k) → Go.RowKit.Hid (Keep F w w') →
      (∀ a : Addr, a.block < w.heap.size → a.block ∉ F → w'.cell? a = w.cell? a) → (∀ a : Addr, a.block < w.heap.size → a.block ∉ F → w'.frozen? a = w.frozen? a) → w.heap.size ≤ w'.heap.size → wpList P ops Q rest (a.put o.dst (.slice A' (xs.length + ys.length) c')) w') : wpList P ops Q (o :: rest) a w := by
  refine wp_appendR T hgd s x ho hs hown hx hn hr h63 hb ?_
  intro v' w' F' ho' hF hk
  obtain ⟨A', c', rfl⟩ := ho'.slice
  rw [List.length_append] at *
  exact h A' c' w' F' ho' hF hk hk.cells hk.frozens hk.size
end
section
variable {α : Type} {d : Kd α} {P : Program} {t e : TypeId} {x0 : α} {by_ : Nat} {w : World}
variable {ops : Array Oper} {rest : List Oper} {o : Oper} {a : Act} {Q : Exit → Act → World → Prop}
theorem wp_app1 (T : SlTy P t e d x0 by_) (hgd : o.guard = none) (s x : Operand) (ho : o.op = .call { callee := .builtin .append, args := #[s, x], argTypes := #[t, t] })
    {F : List Nat} {v : Value} {xs : List α} (hs : a.eval s = v) (hown : Ow d e w F v xs) {ad : Addr} (hx : a.eval x = .slice (some ad) 1 1) {y : α} {Fy : List Nat} {cs : List Value} (hO : d.O w Fy y cs) (hcs : CellsAt w ad 0 cs) (hdis : ∀ k ∈ Fy, k ∉ F)
    (h63 : xs.length + 1 ≤ maxLen) (hb : (xs.length + 1) * by_ ≤ 140737488355328)
    (h : ∀ A' c' w' F', Ow d e w' F' (.slice A' (xs.length + 1) c') (xs ++ [y]) → (∀ k ∈ F', k ∈ F ∨ k ∈ Fy ∨ w.heap.size ≤ k) → Go.RowKit.Hid (Keep F w w') →
      (∀ a : Addr, a.block < w.heap.size → a.block ∉ F → w'.cell? a = w.cell? a) → (∀ a : Addr, a.block < w.heap.size → a.block ∉ F → w'.frozen? a = w.frozen? a) → w.heap.size ≤ w'.heap.size → wpList P ops Q rest (a.put o.dst (.slice A' (xs.length + 1) c')) w') : wpList P ops Q (o :: rest) a w := by
  refine wp_append1 T hgd s x ho hs hown hx hO hcs hdis h63 hb ?_
  intro v' w' F' ho' hF hk
  obtain ⟨A', c', rfl⟩ := ho'.slice
  rw [List.length_append] at *
  exact h A' c' w' F' ho' hF hk hk.cells hk.frozens hk.size
end

/-- A list of which the first elements are turned, each by its place. -/
def upTo {α : Type} (f : Nat → α → α) (xs : List α) (k : Nat) : List α := (xs.mapIdx f).take k ++ xs.drop k
section
variable {α : Type} {f : Nat → α → α}
theorem upTo_zero (xs : List α) : upTo f xs 0 = xs := by simp [upTo]
theorem upTo_all (xs : List α) : upTo f xs xs.length = xs.mapIdx f := by simp [upTo, List.take_of_length_le]
theorem upTo_length (xs : List α) {k : Nat} (hk : k ≤ xs.length) : (upTo f xs k).length = xs.length := by simp [upTo]; omega
theorem upTo_get (xs : List α) {k : Nat} (hk : k < xs.length) : (upTo f xs k)[k]'(by rw [upTo_length _ (by omega)]; exact hk) = xs[k] := by
  simp only [upTo]
  rw [List.getElem_append_right (by rw [List.length_take, List.length_mapIdx]; omega)]
  simp [Nat.min_eq_left (Nat.le_of_lt hk)]
theorem upTo_succ (xs : List α) {k : Nat} (hk : k < xs.length) : (upTo f xs k).set k (f k xs[k]) = upTo f xs (k + 1) := by
  have hl : k < (xs.mapIdx f).length := by simpa using hk
  simp only [upTo]
  rw [List.set_append_right _ _ (by rw [List.length_take]; omega), List.take_succ_eq_append_getElem hl]
  have : k - ((xs.mapIdx f).take k).length = 0 := by rw [List.length_take]; omega
  rw [this, List.drop_eq_getElem_cons hk, List.set_cons_zero, List.append_assoc]; simp
end
end Go.Proofs.Ytdgnpkffdiopaaa
