/- The abstract machine: append, and all operations that write. -/
import Derived.Test.YtlijeincckbdaaaA11
namespace Go.Proofs.Ytlijeincckbdaaa
open Go.RowKit
set_option linter.unusedSimpArgs false
set_option linter.unusedVariables false

section
variable {P : Program} {w0 w : World} {L : Nat → Prop} {n : Nat} {σ : AS} {a : Act} {c : Ctx} {F : Nat → Nat → Prop}

/-- The world moves on: what is read, what is owned and what was lent to nobody stays. -/
theorem H.touch (h : H w0 L n σ a w c F) {w' : World} (ho : w'.os = w.os) (ht : w'.tape = w.tape) (hp : w'.output = w.output) (hz : w.heap.size ≤ w'.heap.size)
    (hI : ∀ b, c.I b → w'.heap[b]? = w.heap[b]?) (hF : ∀ s b, F s b → w'.heap[b]? = w.heap[b]?) (hK : ∀ b, b < w0.heap.size → ¬ L b → w'.heap[b]? = w.heap[b]?) : H w0 L n σ a w' c F :=
  ⟨h.keeps.step ho ht hp hz hK, h.size, h.defers, fun t => (h.tm t).mono (fun _ _ h => h) (fun _ h => h) hI, fun s k hk => (h.mem s k hk).mono (fun _ _ h => h) (fun _ h => h) hI (hF s), h.dom, h.disj,
    fun s b hb => ⟨(h.new s b hb).1, Nat.lt_of_lt_of_le (h.new s b hb).2 hz⟩, fun b hb => Nat.lt_of_lt_of_le (h.imm b hb) hz, h.inn, h.par⟩

theorem elt_append {es src : List (List AV)} {i j : Nat} {x : AV} (h : elt (es ++ src) i j = some x) : (i < es.length ∧ elt es i j = some x) ∨ (es.length ≤ i ∧ elt src (i - es.length) j = some x) := by
  unfold elt at h ⊢
  rw [List.getElem?_append] at h
  split at h
  · exact .inl ⟨by assumption, h⟩
  · exact .inr ⟨by omega, h⟩

theorem kill_cell {s : Nat} {y : AV} (h : (y.bor.kill s).isCell = true) : (y.bor.kill s).isData = true := by
  cases y <;> simp only [AV.bor, AV.kill] at h ⊢ <;> first | rfl | (split at h <;> cases h) | cases h
theorem RowB.build {p : Bool} {b cap sz : Nat} {es src : List (List AV)} {C : Array Value} {e : TypeId} {fz : Nat × Nat} {G : Nat → Nat → Nat → Prop} (hC : w.heap[b]? = some (.cells C e fz)) (hfz : Unfz sz C fz) (hl : es.length + src.length ≤ cap) (hm : cap ≤ maxLen) (hs : C.size = cap * sz)
    (he : ∀ e ∈ es, e.length = sz) (hsrc : ∀ e ∈ src, e.length = sz)
    (h8 : ∀ (i j : Nat) (x : AV) (v : Value), elt es i j = some x → C[i * sz + j]? = some v → v.oneCell' = true ∧ RO c w (G i j) x v)
    (h9 : ∀ (i j : Nat) (x : AV) (v : Value), elt src i j = some x → C[(es.length + i) * sz + j]? = some v → v.oneCell' = true ∧ R c w x v ∧ (p = true → x.isData = true) ∧ (x.isCell = true → x.isData = true))
    (g1 : ∀ i j, ¬ G i j b) (g2 : ∀ i j i' j' k, G i j k → G i' j' k → i = i' ∧ j = j') (g3 : ∀ i j k, G i j k → (elt es i j).isSome = true) : RowB c w p b cap sz (es ++ src) (fun k => k = b ∨ ∃ i j, G i j k) := by
  have hno : ∀ i j, es.length ≤ i → ∀ k, ¬ G i j k := fun i j hi k hk => by
    obtain ⟨x, hx⟩ := Option.isSome_iff_exists.1 (g3 i j k hk)
    have := (elt_lt he hx).1
    omega
  refine ⟨C, e, fz, G, hC, hfz, by simpa using hl, hm, hs, fun e h => ?_, fun i j x v hx hv => ?_, fun i j x v hx hv => ?_, g1, g2, fun i j k hk => ?_, fun k => Iff.rfl⟩
  · rcases List.mem_append.1 h with h | h
    · exact he e h
    · exact hsrc e h
  · rcases elt_append hx with ⟨_, hx⟩ | ⟨hi, hx⟩
    · exact (h8 i j x v hx hv).1
    · exact (h9 (i - es.length) j x v hx (by rw [show es.length + (i - es.length) = i by omega]; exact hv)).1
  · rcases elt_append hx with ⟨_, hx⟩ | ⟨hi, hx⟩
    · exact .inl (h8 i j x v hx hv).2
    · obtain ⟨_, h1, h2⟩ := h9 (i - es.length) j x v hx (by rw [show es.length + (i - es.length) = i by omega]; exact hv)
      cases hd : x.isCell with
      | true => exact .inl (.plain (h2.2 hd) h1 (hno i j hi))
      | false =>
        cases p with
        | true =>
          have h3 := h2.1 rfl
          exact absurd hd (by cases x <;> first | (intro h5; cases h5; done) | (intro h5; cases h3; done))
        | false => exact .inr ⟨rfl, hno i j hi, h1, by first | exact hd | rfl⟩
  · have h1 := g3 i j k hk
    obtain ⟨x, hx⟩ := Option.isSome_iff_exists.1 h1
    have hi := (elt_lt he hx).1
    have h2 : (es ++ src)[i]? = es[i]? := List.getElem?_append_left hi
    unfold elt at h1 ⊢
    rw [h2]; exact h1

def T.noref (s : Nat) : T → Bool
  | .one x => x.noref s
  | _ => false

/-- The elements as they are laid. -/
def laid (p : Bool) (s : Nat) (src : List (List AV)) : List (List AV) := if p then src.map fun e => e.map AV.bor else src.map fun e => e.map fun x => x.bor.kill s

def opAppend (E : Tab) (σ : AS) (site : Nat) (t : TypeId) (x y : T) (K : AS → T → Prop) : Prop :=
  match E.el t with
  | some (e, sz, by_) => match E.zr e with
    | some zs => if zs.length = sz then ∃ p2 src, opSrc σ.mem sz y p2 src ∧ ∃ src', match x with
        | .one (.lit (.slice none 0 0)) => src' = src.map (fun e => e.map AV.bor) ∧ σ.mem site = none ∧ src.length ≤ maxLen ∧ src.length * by_ ≤ 140737488355328 ∧
            K (σ.add site (.row p2 sz src')) (.one (.loc site 0 src.length))
        | .one (.loc s off len) => match σ.mem s with
          | some (.row true rz es) => if rz = sz then src' = laid p2 s src ∧ off = 0 ∧ len = es.length ∧ y.noref s = true ∧ es.length + src.length ≤ maxLen ∧ (es.length + src.length) * by_ ≤ 140737488355328 ∧
              K ((σ.drop s).add s (.row p2 sz (es ++ src'))) (.one (.loc s 0 (es.length + src.length))) else False
          | _ => False
        | _ => False
      else False
    | none => False
  | none => False

theorem laid_len (p : Bool) (s : Nat) (src : List (List AV)) : (laid p s src).length = src.length := by unfold laid; split <;> simp
theorem laid_lens {p : Bool} {s sz : Nat} {src : List (List AV)} (h : ∀ e ∈ src, e.length = sz) : ∀ e ∈ laid p s src, e.length = sz := by
  intro e he
  unfold laid at he
  split at he
  · obtain ⟨e', h1, rfl⟩ := List.mem_map.1 he; simpa using h e' h1
  · obtain ⟨e', h1, rfl⟩ := List.mem_map.1 he; simpa using h e' h1
theorem bor_data {x : AV} (h : x.isCell = true) : x.bor.isData = true := by cases x <;> first | rfl | simp [AV.isCell] at h

theorem opAppend_ok {E : Tab} (hE : E.ok P) (h : H w0 L n σ a w c F) {site t ty : Nat} {x y : T} {X Y : Value} {K : AS → T → Prop} (hX : RT c w x X) (hY : RT c w y Y) (hk : opAppend E σ site t x y K) :
    ∃ σ1 v, K σ1 v ∧ ∃ V w', (Builtin.append_ #[t, t] ty #[X, Y]).run P w = .ok V w' ∧ ∃ c' F', H w0 L n σ1 a w' c' F' ∧ RT c' w' v V := by
  unfold opAppend at hk
  split at hk
  case h_2 => exact hk.elim
  rename_i e sz by_ he
  split at hk
  case h_2 => exact hk.elim
  rename_i zs hz
  split at hk
  case isFalse => exact hk.elim
  rename_i hzs
  obtain ⟨p2, src, hsrc, src', hk⟩ := hk
  obtain ⟨inf, hu, hi, rfl, rfl, hne⟩ := elI_some (Tab.el_ok hE he)
  obtain ⟨inf', z, hi', hzz, rfl, _⟩ := zrI_some (Tab.zr_ok hE hz)
  rw [hi] at hi'; cases hi'
  have hzsz : z.cells.size = inf.size := by simpa using hzs
  obtain ⟨hlens, A, cp, rfl, hA⟩ := opSrc_ok h (Sup.refl σ) hY hsrc
  have hcut : ∀ (need old : Nat), need ≤ maxLen → (need : Int) ≤ 9223372036854775807 := fun need old hm => by simp only [maxLen] at hm; omega
  split at hk
  · -- onto nil
    obtain ⟨rfl, hs, hm, hb, hk⟩ := hk
    obtain rfl := one_lit hX
    refine ⟨_, _, hk, ?_⟩
    by_cases h0 : src.length = 0
    · have hnil : src = [] := List.eq_nil_of_length_eq_zero h0
      subst hnil
      have hrun := run_append_nothing (P := P) (w := w) (ty := ty) (A := A) (cp := cp) hu hi (X := .slice none 0 0) (.inl rfl)
      have hH := h.addSite' (s := site) (k := .row p2 inf.size []) (i := .nil) (G := fun _ => False) hs (fun _ hb => hb.elim) (fun _ _ hb => hb.elim) (.inl ⟨by simp [Ctx.add], rfl, fun _ h => h⟩)
      exact ⟨_, _, hrun, _, _, hH, .locnil (by simp [Ctx.add]), rfl⟩
    · obtain ⟨b, o, rfl, news, hnl, hnc, hnr⟩ := hA (by omega)
      have hadd : ∀ (j : Nat) (v : Value), news[j]? = some v → w.cell? ((⟨b, o, none⟩ : Addr).add j) = some v := fun j v hj => by rw [Addr.add_lit]; exact hnc j v hj
      have hrun := run_append_nil (P := P) w t ty e inf z hu hi hzz ⟨b, o, none⟩ src.length cp news hnl hadd (by omega) (hcut _ 0 hm) (by omega)
      have hge := grownCap_ge w src.length 0 e
      have hle := grownCap_le_maxLen w src.length 0 e hm
      have hbelow : Below w.heap.size w (w.drew.alloc (.cells (news.toArray ++ Builtin.zeroCells z.cells (grownCap w src.length 0 e - src.length)) e)) := ((Below.refl _ _).drew).alloc (by simp) _
      obtain ⟨c', F', hH, hat⟩ := h.newRow hbelow hs (p := p2) (sz := inf.size) (cap := grownCap w src.length 0 e) (es := src.map fun e => e.map AV.bor) (b := w.heap.size) (Nat.le_refl _) (heap_alloc_new w.drew _) (fun i _ => by simp) (by simpa using hge) hle
        (by
          simp only [Array.size_append, List.size_toArray, size_zeroCells, hzsz, hnl, ← Nat.add_mul]
          congr 1; omega) (fun e' he' => by obtain ⟨e'', h1, rfl⟩ := List.mem_map.1 he'; simpa using hlens e'' h1) (fun i j x v hx hv => by
          obtain ⟨y, hy, rfl⟩ := elt_map hx
          obtain ⟨hi1, hj1⟩ := elt_lt hlens hy
          have hlt : i * inf.size + j < news.length := by rw [hnl]; exact fit_lt hi1 hj1 (Nat.le_refl _)
          rw [Array.getElem?_append_left (by simpa using hlt)] at hv
          obtain ⟨r1, r2, r3⟩ := hnr i j y v hy (by simpa using hv)
          exact ⟨⟨r1.bor, r2⟩, fun hp => bor_data (r3 hp), bor_cell⟩)
      refine ⟨_, _, hrun, c', F', hH, ?_, rfl⟩
      have := R.loc (c := c') (w := w.drew.alloc (.cells (news.toArray ++ Builtin.zeroCells z.cells (grownCap w src.length 0 e - src.length)) e)) (off := 0) (len := src.length) (A := some ⟨w.heap.size, 0, none⟩) hat (by omega) (fun _ => by simp)
      simpa using this
  · -- onto a row of the call's own
    rename_i s off len
    split at hk
    case h_2 => exact hk.elim
    rename_i rz es hs
    split at hk
    case isFalse => exact hk.elim
    rename_i hrz
    subst hrz
    obtain ⟨rfl, rfl, hlen, hnr0, hm, hb, hk⟩ := hk
    obtain ⟨hX, _⟩ := hX
    refine ⟨_, _, hk, ?_⟩
    -- the place is given up, and made anew
    have hd := h.drop s
    have hnone : (σ.drop s).mem s = none := by simp [AS.drop]
    have hext : ∀ (si : SI) (J : Nat → Prop), (∀ s' i', (c.del s).at_ s' = some i' → ((c.del s).add s si J).at_ s' = some i') ∧ ∀ b, (c.del s).I b → ((c.del s).add s si J).I b := fun si J => Ctx.add_ext (by simp [Ctx.del]) si J
    -- the new elements, in the new context
    have hnew : ∀ (news : List Value) (si : SI) (J : Nat → Prop) (w' : World), (∀ b, c.I b → w'.heap[b]? = w.heap[b]?) → (∀ (i j : Nat) (x : AV) (v : Value), elt src i j = some x → news[i * inf.size + j]? = some v → R c w x v ∧ v.oneCell' = true ∧ (p2 = true → x.isCell = true)) →
        ∀ (i j : Nat) (x : AV) (v : Value), elt (laid p2 s src) i j = some x → news[i * inf.size + j]? = some v → v.oneCell' = true ∧ R ((c.del s).add s si J) w' x v ∧ (p2 = true → x.isData = true) ∧ (x.isCell = true → x.isData = true) := by
      intro news si J w' hI hr i j x v hx hv
      obtain ⟨e1, e2⟩ := hext si J
      unfold laid at hx
      split at hx
      · rename_i hp
        obtain ⟨y, hy, rfl⟩ := elt_map hx
        obtain ⟨r1, r2, r3⟩ := hr i j y v hy hv
        have hcell := r3 hp
        exact ⟨r2, (R.free (c := c) (fun b hb => e2 b hb) hI r1 (by cases y <;> simp_all [AV.isCell, AV.isFree])).bor, fun _ => bor_data hcell, bor_cell⟩
      · rename_i hp
        obtain ⟨y, hy, rfl⟩ := elt_map hx
        obtain ⟨r1, r2, r3⟩ := hr i j y v hy hv
        exact ⟨r2, R.mono (c := c.del s) e1 e2 hI r1.bor.kill, fun h => absurd h hp, kill_cell⟩
    -- the old row
    rcases h.mem s _ hs with ⟨hat, rfl, hF0⟩ | ⟨b, cap, hat, hB⟩
    · have hX0 : X = .slice none 0 0 := by
        cases hX with
        | locnil => rfl
        | loc h1 => rw [hat] at h1; cases h1
      subst hX0
      by_cases h0 : src.length = 0
      · have hnil : src = [] := List.eq_nil_of_length_eq_zero h0
        subst hnil
        have hrun := run_append_nothing (P := P) (w := w) (ty := ty) (A := A) (cp := cp) hu hi (X := .slice none 0 0) (.inl rfl)
        have hH := hd.addSite' (s := s) (k := .row p2 inf.size ([] ++ laid p2 s [])) (i := .nil) (G := fun _ => False) hnone (fun _ hb => hb.elim) (fun _ _ hb => hb.elim) (.inl ⟨by simp [Ctx.add], by simp [laid], fun _ h => h⟩)
        exact ⟨_, _, hrun, _, _, hH, .locnil (by simp [Ctx.add]), rfl⟩
      · obtain ⟨b, o, rfl, news, hnl, hnc, hnr⟩ := hA (by omega)
        have hadd : ∀ (j : Nat) (v : Value), news[j]? = some v → w.cell? ((⟨b, o, none⟩ : Addr).add j) = some v := fun j v hj => by rw [Addr.add_lit]; exact hnc j v hj
        simp only [List.length_nil, Nat.zero_add] at hm hb
        have hrun := run_append_nil (P := P) w t ty e inf z hu hi hzz ⟨b, o, none⟩ src.length cp news hnl hadd (by omega) (hcut _ 0 hm) (by omega)
        have hge := grownCap_ge w src.length 0 e
        have hle := grownCap_le_maxLen w src.length 0 e hm
        have hbelow : Below w.heap.size w (w.drew.alloc (.cells (news.toArray ++ Builtin.zeroCells z.cells (grownCap w src.length 0 e - src.length)) e)) := ((Below.refl _ _).drew).alloc (by simp) _
        have hsize : (news.toArray ++ Builtin.zeroCells z.cells (grownCap w src.length 0 e - src.length)).size = grownCap w src.length 0 e * inf.size := by
          simp only [Array.size_append, List.size_toArray, size_zeroCells, hzsz, hnl, ← Nat.add_mul]
          congr 1; omega
        have hH := (hd.world hbelow).addSite' (s := s) (k := .row p2 inf.size ([] ++ laid p2 s src)) (i := .row w.heap.size (grownCap w src.length 0 e) inf.size) (G := fun k => k = w.heap.size ∨ ∃ i j : Nat, (fun _ _ _ => False : Nat → Nat → Nat → Prop) i j k) hnone
          (fun k hk => by
            have hk' : k = w.heap.size := by simpa using hk
            subst hk'
            exact ⟨.inl h.keeps.size, by simp, fun s' hs' => by have := (h.new s' _ hs'.2).2; omega⟩) (fun k hk _ hI => by
            have hk' : k = w.heap.size := hk
            subst hk'
            have := h.imm _ hI; omega)
          (.inr ⟨w.heap.size, grownCap w src.length 0 e, by simp [Ctx.add], RowB.build (C := news.toArray ++ Builtin.zeroCells z.cells (grownCap w src.length 0 e - src.length)) (e := e) (fz := (0, 0)) (heap_alloc_new w.drew _) (fun i _ => by simp) (by rw [laid_len]; simpa using hge) hle hsize (by simp) (laid_lens hlens) (by simp [elt])
            (fun i j x v hx hv => by
              obtain ⟨hi1, hj1⟩ := elt_lt (laid_lens hlens) hx
              rw [laid_len] at hi1
              have hlt : i * inf.size + j < news.length := by rw [hnl]; exact fit_lt hi1 hj1 (Nat.le_refl _)
              simp only [List.length_nil, Nat.zero_add] at hv
              rw [Array.getElem?_append_left (by simpa using hlt)] at hv
              exact hnew news _ _ _ (fun q hq => hbelow.block q (h.imm q hq)) hnr i j x v hx (by simpa using hv)) (fun _ _ h => h) (fun _ _ _ _ _ h => h.elim) (fun _ _ _ h => h.elim)⟩)
        refine ⟨_, _, hrun, _, _, hH, ?_, rfl⟩
        have := R.loc (c := (c.del s).add s (.row w.heap.size (grownCap w src.length 0 e) inf.size) (fun b => (fun k => k = w.heap.size ∨ ∃ i j : Nat, (fun _ _ _ => False : Nat → Nat → Nat → Prop) i j k) b ∧ ¬ (SI.row w.heap.size (grownCap w src.length 0 e) inf.size).isTop b)) (w := w.drew.alloc (.cells (news.toArray ++ Builtin.zeroCells z.cells (grownCap w src.length 0 e - src.length)) e)) (s := s) (off := 0) (len := src.length) (b := w.heap.size) (cap := grownCap w src.length 0 e) (sz := inf.size) (A := some ⟨w.heap.size, 0, none⟩) (by simp [Ctx.add]) (by omega) (fun _ => by simp)
        simpa using this
    · obtain ⟨C, el, fz, G, a1, a2, a3, a4, a5, a6, a7, a8, a9, a10, a11, a12⟩ := hB
      have a8' : ∀ (i j : Nat) (x : AV) (v : Value), elt es i j = some x → C[i * inf.size + j]? = some v → RO c w (G i j) x v := fun i j x v hx hv => (a8 i j x v hx hv).resolve_right (by simp)
      have hFb : F s b := (a12 b).2 (.inl rfl)
      have hGF : ∀ i j k, G i j k → F s k ∧ c.I k := fun i j k hk => by
        have hFk : F s k := (a12 k).2 (.inr ⟨i, j, hk⟩)
        refine ⟨hFk, (h.inn s k hFk).2 ?_⟩
        rintro (ht | ⟨_, _, ht⟩)
        · rw [hat] at ht; cases ht
        · rw [hat] at ht; cases ht; exact a9 i j hk
      have hbI : ¬ c.I b := (h.top_not_I (.inr ⟨_, _, hat⟩)).2
      have hbF : ∀ s', s' ≠ s → ¬ F s' b := fun s' hne hb' => hne (h.disj _ _ _ hb' hFb)
      obtain ⟨A0, rfl, hA0⟩ : ∃ A0, X = .slice A0 es.length cap ∧ (0 < cap → A0 = some ⟨b, 0, none⟩) := by
        subst hlen
        generalize hq : es.length = q at hX
        cases hX with
        | locnil h1 => rw [hat] at h1; cases h1
        | @loc _ _ _ b' cap' sz' A h1 hle hA =>
          rw [hat] at h1; cases h1
          exact ⟨A, rfl, fun hc0 => by simpa using hA hc0⟩
      -- the place made anew: in block b', with cells C'
      have fin : ∀ (w' : World) (b' cap' : Nat) (C' : Array Value) (el' : TypeId) (fz' : Nat × Nat) (news : List Value) (A' : Option Addr), H w0 L n (σ.drop s) a w' (c.del s) (fun s' b => s' ≠ s ∧ F s' b) → w'.heap[b']? = some (.cells C' el' fz') → Unfz inf.size C' fz' → es.length + src.length ≤ cap' → cap' ≤ maxLen → C'.size = cap' * inf.size →
          (∀ q, c.I q → w'.heap[q]? = w.heap[q]?) → (b' = b ∨ b' = w.heap.size) → b' < w'.heap.size → w.heap.size ≤ w'.heap.size →
          (∀ k, k < es.length * inf.size → C'[k]? = C[k]?) → (∀ k, k < news.length → C'[es.length * inf.size + k]? = news[k]?) → news.length = src.length * inf.size →
          (∀ (i j : Nat) (x : AV) (v : Value), elt src i j = some x → news[i * inf.size + j]? = some v → R c w x v ∧ v.oneCell' = true ∧ (p2 = true → x.isCell = true)) →
          (0 < cap' → A' = some ⟨b', 0, none⟩) →
          ∃ c' F', H w0 L n ((σ.drop s).add s (.row p2 inf.size (es ++ laid p2 s src))) a w' c' F' ∧ RT c' w' (.one (.loc s 0 (es.length + src.length))) (.slice A' (es.length + src.length) cap') := by
        intro w' b' cap' C' el' fz' news A' hH0 hC' hfz' hfit' hm' hs' hI hb' hlt' hgr hold hnews hnl hnr hA'
        have hb'I : ¬ c.I b' := fun hI' => by
          rcases hb' with rfl | rfl
          · exact hbI hI'
          · have := h.imm _ hI'; omega
        have hGne : ∀ i j, ¬ G i j b' := fun i j hg => hb'I (hGF i j b' hg).2
        have hH := hH0.addSite' (s := s) (k := .row p2 inf.size (es ++ laid p2 s src)) (i := .row b' cap' inf.size) (G := fun k => k = b' ∨ ∃ i j, G i j k) hnone
          (fun k hk => by
            rcases hk with rfl | ⟨i, j, hk⟩
            · refine ⟨?_, hlt', fun s' hs' => ?_⟩
              · rcases hb' with rfl | rfl
                · exact (h.new s _ hFb).1
                · exact .inl h.keeps.size
              · rcases hb' with rfl | rfl
                · exact hbF s' hs'.1 hs'.2
                · have := (h.new s' _ hs'.2).2; omega
            · obtain ⟨h1, h2⟩ := hGF i j k hk
              exact ⟨(h.new s k h1).1, Nat.lt_of_lt_of_le (h.new s k h1).2 hgr, fun s' hs' => hs'.1 (h.disj _ _ _ hs'.2 h1)⟩)
          (fun k hk _ hI' => by
            have hk' : k = b' := hk
            subst hk'
            exact hb'I hI')
          (.inr ⟨b', cap', by simp [Ctx.add], RowB.build hC' hfz' (by rw [laid_len]; exact hfit') hm' hs' a6 (laid_lens hlens)
            (fun i j x v hx hv => by
              obtain ⟨hi1, hj1⟩ := elt_lt a6 hx
              rw [hold _ (fit_lt hi1 hj1 (Nat.le_refl _))] at hv
              have h8 := a8' i j x v hx hv
              refine ⟨a7 i j x v hx hv, ?_⟩
              refine RO.ctx (c := c) (fun q hq => (hext _ _).2 q hq) (h8.mono (fun _ _ h => h) (fun _ h => h) hI fun q hq => hI q (hGF i j q hq).2))
            (fun i j x v hx hv => by
              obtain ⟨hi1, hj1⟩ := elt_lt (laid_lens hlens) hx
              rw [laid_len] at hi1
              have hlt : i * inf.size + j < news.length := by rw [hnl]; exact fit_lt hi1 hj1 (Nat.le_refl _)
              rw [Nat.add_mul, Nat.add_assoc, hnews _ hlt] at hv
              exact hnew news _ _ _ hI hnr i j x v hx hv) hGne a10 a11⟩)
        refine ⟨_, _, hH, ?_, rfl⟩
        have := R.loc (c := (c.del s).add s (.row b' cap' inf.size) (fun k => (fun k => k = b' ∨ ∃ i j, G i j k) k ∧ ¬ (SI.row b' cap' inf.size).isTop k)) (w := w') (s := s) (off := 0) (len := es.length + src.length) (b := b') (cap := cap') (sz := inf.size) (A := A') (by simp [Ctx.add]) (by omega) (fun h0 => by simpa using hA' h0)
        simpa using this
      by_cases h0 : src.length = 0
      · have hnil : src = [] := List.eq_nil_of_length_eq_zero h0
        subst hnil
        have hX1 : (Value.slice A0 es.length cap = .slice none 0 0) ∨ ∃ g m cap', Value.slice A0 es.length cap = .slice (some g) m cap' ∧ m ≤ cap' := by
          cases A0 with
          | none =>
            left
            have hc0 : cap = 0 := by
              rcases Nat.eq_zero_or_pos cap with e | e
              · exact e
              · exact absurd (hA0 e) (by simp)
            subst hc0
            have hes : es = [] := List.eq_nil_of_length_eq_zero (by omega)
            subst hes; rfl
          | some g => exact .inr ⟨g, _, _, rfl, a3⟩
        have hrun := run_append_nothing (P := P) (w := w) (ty := ty) (A := A) (cp := cp) hu hi hX1
        obtain ⟨c', F', h1, h2⟩ := fin w b cap C el fz [] A0 hd a1 a2 (by simpa using a3) a4 a5 (fun _ _ => rfl) (.inl rfl) (h.new s b hFb).2 (Nat.le_refl _) (fun _ _ => rfl) (by simp) (by simp) (by simp [elt]) hA0
        exact ⟨_, _, hrun, c', F', h1, by simpa using h2⟩
      · obtain ⟨bs, o, rfl, news, hnl, hnc, hnr⟩ := hA (by omega)
        have hadd : ∀ (j : Nat) (v : Value), news[j]? = some v → w.cell? ((⟨bs, o, none⟩ : Addr).add j) = some v := fun j v hj => by rw [Addr.add_lit]; exact hnc j v hj
        have hones : ∀ u ∈ news, u.oneCell' = true := fun u hu => by
          obtain ⟨k, hk⟩ := List.getElem?_of_mem hu
          have hk1 := (List.getElem?_eq_some_iff.1 hk).1
          rw [hnl] at hk1
          have hsz : 0 < inf.size := by omega
          have hi1 : k / inf.size < src.length := (Nat.div_lt_iff_lt_mul hsz).2 hk1
          have hj1 : k % inf.size < (src[k / inf.size]).length := by rw [hlens _ (List.getElem_mem hi1)]; exact Nat.mod_lt _ hsz
          have hdm : k / inf.size * inf.size + k % inf.size = k := by have := Nat.div_add_mod k inf.size; rw [Nat.mul_comm] at this; exact this
          exact (hnr (k / inf.size) (k % inf.size) (src[k / inf.size][k % inf.size]) u (by simp only [elt, List.getElem?_eq_getElem hi1, Option.bind_some, List.getElem?_eq_getElem hj1]) (by rw [hdm]; exact hk)).2.1
        by_cases hroom : es.length + src.length ≤ cap
        · have hA1 := hA0 (by omega)
          subst hA1
          have hfit : es.length * inf.size + news.length ≤ C.size := by rw [hnl, a5, ← Nat.add_mul]; exact Nat.mul_le_mul_right _ hroom
          have hrun := run_append_place (P := P) (ty := ty) hu hi a1 a2 (sLen := es.length) (sCap := cap) (c := cp) hnl hadd hones hroom hfit
          have htl : (C.toList.take (es.length * inf.size)).length = es.length * inf.size := by rw [List.length_take, Array.length_toList (xs := C)]; omega
          have hoth : ∀ q, q ≠ b → (w.setRow b (C.toList.take (es.length * inf.size) ++ news ++ C.toList.drop (es.length * inf.size + news.length)).toArray).heap[q]? = w.heap[q]? := fun q hq => setRow_other w b q _ hq
          have hI : ∀ q, c.I q → (w.setRow b (C.toList.take (es.length * inf.size) ++ news ++ C.toList.drop (es.length * inf.size + news.length)).toArray).heap[q]? = w.heap[q]? := fun q hq => hoth q fun e => by subst e; exact hbI hq
          have hH0 := hd.touch (w' := w.setRow b (C.toList.take (es.length * inf.size) ++ news ++ C.toList.drop (es.length * inf.size + news.length)).toArray) rfl rfl rfl (by simp) hI (fun s' q hq => hoth q fun e => by subst e; exact hbF s' hq.1 hq.2) (fun q hq hl => hoth q fun e => by
            subst e
            rcases (h.new s _ hFb).1 with h1 | h1
            · omega
            · exact hl h1)
          obtain ⟨c', F', h1, h2⟩ := fin _ b cap _ el fz news (some ⟨b, 0, none⟩) hH0 (setRow_heap w b C _ el fz a1) (fun i hi' => a2 i (by simp at hi'; omega)) hroom a4 (by simp; omega) hI (.inl rfl) (by simpa using (h.new s b hFb).2) (by simp) (fun k hk => by
              simp only [List.append_assoc]
              rw [List.getElem?_toArray, List.getElem?_append_left (by omega), List.getElem?_take, if_pos hk]; simp) (fun k hk => by
              simp only [List.append_assoc]
              rw [List.getElem?_toArray, List.getElem?_append_right (by omega), htl, Nat.add_sub_cancel_left, List.getElem?_append_left hk]) hnl hnr (fun _ => rfl)
          exact ⟨_, _, hrun, c', F', h1, h2⟩
        · -- a new row
          have hge := grownCap_ge w (es.length + src.length) cap e
          have hle := grownCap_le_maxLen w (es.length + src.length) cap e hm
          have hfits : Builtin.nextslicecap (es.length + src.length) cap * inf.bytes ≤ 281474976710656 := growslice_fits (by omega) hb
          have hrun : (Builtin.append_ #[t, t] ty #[.slice A0 es.length cap, .slice (some ⟨bs, o, none⟩) src.length cp]).run P w = .ok (.slice (some ⟨w.heap.size, 0, none⟩) (es.length + src.length) (grownCap w (es.length + src.length) cap e))
              (w.drew.alloc (.cells ((C.toList.take (es.length * inf.size)).toArray ++ news.toArray ++ Builtin.zeroCells z.cells (grownCap w (es.length + src.length) cap e - (es.length + src.length))) e)) := by
            have htl : (C.toList.take (es.length * inf.size)).length = es.length * inf.size := by
              rw [List.length_take, Array.length_toList (xs := C), a5]
              have := Nat.mul_le_mul_right inf.size a3; omega
            cases A0 with
            | some g =>
              refine run_append_grow (P := P) w t ty e inf z hu hi hzz g es.length cap (C.toList.take (es.length * inf.size)) htl (fun j v hj => ?_) ⟨bs, o, none⟩ src.length cp news hnl hadd (by omega) (by have := hcut _ 0 hm; simpa using this) hfits
              have hj1 := (List.getElem?_eq_some_iff.1 hj).1
              rw [htl] at hj1
              have hc0 : 0 < cap := by
                rcases Nat.eq_zero_or_pos cap with e0 | e0
                · subst e0; have : es.length = 0 := by omega
                  rw [this] at hj1; simp at hj1
                · exact e0
              cases hA0 hc0
              rw [Addr.add_lit, Nat.zero_add]
              simp only [World.cell?, a1, Option.isSome_none, Bool.false_eq_true, if_false]
              rw [List.getElem?_take, if_pos hj1] at hj
              simpa using hj
            | none =>
              have hc0 : cap = 0 := by
                rcases Nat.eq_zero_or_pos cap with e0 | e0
                · exact e0
                · exact absurd (hA0 e0) (by simp)
              subst hc0
              have hes : es = [] := List.eq_nil_of_length_eq_zero (by omega)
              subst hes
              have := run_append_nil (P := P) w t ty e inf z hu hi hzz ⟨bs, o, none⟩ src.length cp news hnl hadd (by omega) (hcut _ 0 (by simpa using hm)) (by simp at hb; omega)
              simpa using this
          have hbelow : Below w.heap.size w (w.drew.alloc (.cells ((C.toList.take (es.length * inf.size)).toArray ++ news.toArray ++ Builtin.zeroCells z.cells (grownCap w (es.length + src.length) cap e - (es.length + src.length))) e)) := ((Below.refl _ _).drew).alloc (by simp) _
          have htl : (C.toList.take (es.length * inf.size)).toArray.size = es.length * inf.size := by
            have := Nat.mul_le_mul_right inf.size a3
            simp; omega
          obtain ⟨c', F', h1, h2⟩ := fin _ w.heap.size (grownCap w (es.length + src.length) cap e) _ e (0, 0) news (some ⟨w.heap.size, 0, none⟩) (hd.world hbelow) (heap_alloc_new w.drew _) (fun i _ => by simp) hge hle
            (by
              simp only [Array.size_append, htl, List.size_toArray, size_zeroCells, hzsz, hnl, ← Nat.add_mul]
              congr 1; omega) (fun q hq => hbelow.block q (h.imm q hq)) (.inr rfl) (by simp) (by simp)
            (fun k hk => by
              rw [Array.append_assoc, Array.getElem?_append_left (by omega)]
              simp [hk]) (fun k hk => by
              rw [Array.append_assoc, Array.getElem?_append_right (by omega), htl, Nat.add_sub_cancel_left, Array.getElem?_append_left (by simpa using hk)]
              simp) hnl hnr (fun _ => rfl)
          exact ⟨_, _, hrun, c', F', h1, h2⟩
  · exact hk.elim
end
end Go.Proofs.Ytlijeincckbdaaa
