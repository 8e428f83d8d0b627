/- The abstract machine: calls. -/
import Derived.Test.YtlijeincckbdaaaA6
namespace Go.Proofs.Ytlijeincckbdaaa
open Go.RowKit
set_option linter.unusedSimpArgs false
set_option linter.unusedVariables false

def all2 (p : AV → AV → Prop) : List AV → List AV → Prop
  | [], [] => True
  | x :: xs, y :: ys => p x y ∧ all2 p xs ys
  | _, _ => False

/-- What a callee may see of a value: places of the caller's own are lent. -/
def LendA (m : Nat → Option Blk) : Nat → AV → AV → Prop
  | _, _, .dead => True
  | _, .lit (.slice none 0 0), y => y = .lit (.slice none 0 0) ∨ (∃ own sz, y = .row own sz []) ∨ ∃ s, m s = some (.par (.slice none 0 0) y)
  | _, .lit v, y => y = .lit v ∨ ∃ s, m s = some (.par v y)
  | _, .row _ sz es, .row _ sz' es' => sz' = sz ∧ es' = es
  | _, .nn sz es, .row _ sz' es' => sz' = sz ∧ es' = es
  | _, .loc s off len, .row _ sz' es' => match m s with
    | some (.row true sz es) => sz' = sz ∧ off + len ≤ es.length ∧ es' = (es.drop off).take len
    | _ => False
  | _, .bptr xs j, .bptr xs' j' => xs' = xs ∧ j' = j
  | k + 1, .ptr s j, .bptr xs' j' => match m s with
    | some (.var xs) => j' = j ∧ xs'.all AV.isFree = true ∧ all2 (LendA m k) xs xs'
    | _ => False
  | k + 1, .eptr s i j, .bptr xs' j' => match m s with
    | some (.row true _ es) => ∃ e, es[i]? = some e ∧ j' = j ∧ xs' = e.map AV.bor
    | _ => False
  | k + 1, .fn f caps, .fn f' caps' => f' = f ∧ all2 (LendA m k) caps caps'
  | _, _, _ => False
def LendT (m : Nat → Option Blk) : T → T → Prop
  | _, .dead => True
  | .one x, .one y => LendA m 4 x y
  | .agg xs, .agg ys => all2 (LendA m 4) xs ys
  | _, _ => False
def LendTs (m : Nat → Option Blk) : List T → List T → Prop
  | [], [] => True
  | x :: xs, y :: ys => LendT m x y ∧ LendTs m xs ys
  | _, _ => False

def c0 (I : Nat → Prop) : Ctx := ⟨fun _ => none, I⟩

section
variable {P : Program} {w0 w : World} {L : Nat → Prop} {n : Nat} {σ : AS} {a : Act} {c : Ctx} {F : Nat → Nat → Prop} {K : T → News → Prop}

theorem AV.bor_free {x : AV} (h : x.isFree = true) : x.bor.isFree = true := by cases x <;> first | exact h | rfl

/-- What may be lent: all that is read, and all tops of places. -/
def lentI0 (c : Ctx) (F : Nat → Nat → Prop) (O : Nat → Prop) (k : Nat) : Prop := c.I k ∨ (∃ s, F s k) ∨ O k

theorem H.rowAll (h : H w0 L n σ a w c F) {s : Nat} {sz : Nat} {es : List (List AV)} (hs : σ.mem s = some (.row true sz es)) :
    (c.at_ s = some .nil ∧ es = []) ∨ ∃ b cap, c.at_ s = some (.row b cap sz) ∧ es.length ≤ cap ∧ cap ≤ maxLen ∧ (∀ e ∈ es, e.length = sz) ∧ F s b ∧
      ∀ (i j : Nat) (x : AV), elt es i j = some x → ∃ v, w.cell? ⟨b, i * sz + j, none⟩ = some v ∧ v.oneCell' = true ∧ x.isCell = true ∧ R c w x v := by
  rcases h.mem s _ hs with ⟨h1, h2, _⟩ | ⟨b, cap, hat, hB⟩
  · exact .inl ⟨h1, h2⟩
  · have hB' := hB
    obtain ⟨C, el, fz, G, a1, a2, a3, a4, a5, a6, a7, a8, a9, a10, a11, a12⟩ := hB'
    refine .inr ⟨b, cap, hat, a3, a4, a6, (a12 b).2 (.inl rfl), fun i j x hx => ?_⟩
    obtain ⟨hi, hj⟩ := elt_lt a6 hx
    have hfit := fit_lt hi hj a3
    have hv : C[i * sz + j]? = some (C[i * sz + j]'(by omega)) := by simp
    have h8 := (a8 i j x _ hx hv).resolve_right (by simp)
    refine ⟨_, by simp only [World.cell?, a1, Option.isSome_none, Bool.false_eq_true, if_false]; exact hv, a7 i j x _ hx hv, h8.isCell, h8.read fun q hq => ?_⟩
    have hF : F s q := (a12 q).2 (.inr ⟨i, j, hq⟩)
    rw [h.inn s q hF]
    rintro (ht | ⟨_, _, ht⟩)
    · rw [hat] at ht; cases ht
    · rw [hat] at ht; cases ht; exact a9 i j hq

theorem R.anyOwn {c : Ctx} {w : World} {o o' : Bool} {sz : Nat} {es : List (List AV)} {v : Value} (h : R c w (.row o sz es) v) : R c w (.row o' sz es) v := by
  cases h with
  | row b o vals a1 a2 a3 a4 a5 a6 a7 a8 => exact .row b o vals a1 a2 a3 a4 a5 a6 a7 a8

theorem all2_len {p : AV → AV → Prop} : ∀ {xs ys : List AV}, all2 p xs ys → xs.length = ys.length
  | [], [], _ => rfl
  | _ :: _, _ :: _, h => by simp [all2_len h.2]
theorem all2_at {p : AV → AV → Prop} : ∀ {xs ys : List AV}, all2 p xs ys → ∀ (i : Nat) (y : AV), ys[i]? = some y → ∃ x, xs[i]? = some x ∧ p x y
  | [], [], _, i, y, h => by simp at h
  | x :: _, y :: _, h, 0, _, hy => by simp at hy; subst hy; exact ⟨x, rfl, h.1⟩
  | _ :: _, _ :: _, h, i + 1, y, hy => by simpa using all2_at h.2 i y (by simpa using hy)

theorem lendA_ok (h : H w0 L n σ a w c F) {m : Nat → Option Blk} (hm : Sup σ m) : ∀ (k : Nat) {x y : AV} {v : Value}, R c w x v → LendA m k x y → R (c0 (lentI0 c F (oldB w0 L))) w y v := by
  have hI : ∀ b, c.I b → (c0 (lentI0 c F (oldB w0 L))).I b := fun b hb => .inl hb
  intro k
  induction k using Nat.strongRecOn with
  | _ k ih =>
  intro x y v hX hl
  unfold LendA at hl
  split at hl
  · exact .dead v
  · cases hX
    rcases hl with rfl | ⟨own, sz, rfl⟩ | ⟨s, hs⟩
    · exact .lit _
    rotate_left
    · have hs' := hm.2 s _ rfl hs
      obtain ⟨a2, a3⟩ := h.par s _ _ hs'
      exact R.free (c' := c0 (lentI0 c F (oldB w0 L))) (fun b hb => Or.inr (Or.inr hb)) (fun b (hb : oldB w0 L b) => h.keeps.block b hb.1 hb.2) a3 a2
    · exact .row 0 0 (fun _ _ => default) (Nat.le_refl _) (by simp [maxLen]) (by simp) (by simp) (by simp [elt]) (by simp [elt]) (by simp [elt]) (by simp [elt])
  · cases hX
    rcases hl with rfl | ⟨s, hs⟩
    · exact .lit _
    · have hs' := hm.2 s _ rfl hs
      obtain ⟨a2, a3⟩ := h.par s _ _ hs'
      exact R.free (c' := c0 (lentI0 c F (oldB w0 L))) (fun b hb => Or.inr (Or.inr hb)) (fun b (hb : oldB w0 L b) => h.keeps.block b hb.1 hb.2) a3 a2
  · obtain ⟨rfl, rfl⟩ := hl
    exact (hX.free hI (fun _ _ => rfl) rfl).anyOwn
  · obtain ⟨rfl, rfl⟩ := hl
    cases hX with | nn hX => exact (hX.free hI (fun _ _ => rfl) rfl).anyOwn
  · rename_i s off len own sz' es'
    split at hl
    case h_2 => exact hl.elim
    rename_i sz es hs
    obtain ⟨rfl, hfits, rfl⟩ := hl
    replace hs : σ.mem s = some (.row true sz' es) := by
      cases hX with
      | locnil h1 => exact h.look hm h1 hs
      | loc h1 => exact h.look hm h1 hs
    rcases h.rowAll hs with ⟨hat, rfl⟩ | ⟨b, cap, hat, a3, a4, a6, hFb, hcell⟩
    · cases hX with
      | locnil _ => simp only [List.drop_nil, List.take_nil]; exact .row 0 0 (fun _ _ => default) (Nat.le_refl _) (by simp [maxLen]) (by simp) (by simp) (by simp [elt]) (by simp [elt]) (by simp [elt]) (by simp [elt])
      | loc h1 => rw [hat] at h1; cases h1
    · cases hX with
      | locnil h1 => rw [hat] at h1; cases h1
      | @loc _ _ _ b' cap' sz'' A h1 hle hA =>
        rw [hat] at h1; cases h1
        have hel : ∀ (i j : Nat) (x : AV), elt ((es.drop off).take len) i j = some x → i < len ∧ elt es (off + i) j = some x := fun i j x hx => by
          unfold elt at hx ⊢
          rw [List.getElem?_take] at hx
          split at hx
          · rw [List.getElem?_drop] at hx; exact ⟨by assumption, hx⟩
          · simp at hx
        have hlen : ((es.drop off).take len).length = len := by rw [List.length_take, List.length_drop]; omega
        have hmem : ∀ i j : Nat, ∃ v, ∀ x, elt es (off + i) j = some x → w.cell? ⟨b, (off + i) * sz' + j, none⟩ = some v ∧ v.oneCell' = true ∧ x.isCell = true ∧ R c w x v := fun i j => by
          cases hx : elt es (off + i) j with
          | none => exact ⟨default, fun x h => by cases h⟩
          | some x => obtain ⟨v, hv⟩ := hcell _ _ _ hx; exact ⟨v, fun y hy => by cases hy; exact hv⟩
        have key := R.row (c := c0 (lentI0 c F (oldB w0 L))) (w := w) (own := own) (sz := sz') (es := (es.drop off).take len) (A := A) (cap := cap - off) b (off * sz') (fun i j => (hmem i j).choose)
          (by rw [hlen]; omega) (by omega) (fun hlt => ⟨hA (by rw [hlen] at hlt; omega), .inr (.inl ⟨s, hFb⟩)⟩) (fun e he => a6 e (List.mem_of_mem_drop (List.mem_of_mem_take he)))
          (fun i j x hx => ((hmem i j).choose_spec x (hel i j x hx).2).2.2.1)
          (fun i j x hx => by have := ((hmem i j).choose_spec x (hel i j x hx).2).1; rw [← this]; congr 2; rw [Nat.add_mul])
          (fun i j x hx => ((hmem i j).choose_spec x (hel i j x hx).2).2.1)
          (fun i j x hx => ((hmem i j).choose_spec x (hel i j x hx).2).2.2.2.free hI (fun _ _ => rfl) (by have := ((hmem i j).choose_spec x (hel i j x hx).2).2.2.1; cases x <;> simp_all [AV.isCell, AV.isFree]))
        rw [hlen] at key
        exact key
  · obtain ⟨rfl, rfl⟩ := hl
    exact hX.free hI (fun _ _ => rfl) rfl
  · rename_i k s j xs' j'
    split at hl
    case h_2 => exact hl.elim
    rename_i xs hs
    obtain ⟨rfl, hfree, hl⟩ := hl
    cases hX with | @ptr _ _ b hp =>
    obtain ⟨b', hat, hFb, vs, hR, hv⟩ := h.varCells (h.look hm hp hs)
    rw [hp] at hat; cases hat
    have hlen := hR.length
    have hmem : ∀ i : Nat, ∃ v, ∀ y, xs'[i]? = some y → w.cell? ⟨b, i, none⟩ = some v ∧ v.oneCell' = true ∧ R (c0 (lentI0 c F (oldB w0 L))) w y v := fun i => by
      cases hy : xs'[i]? with
      | none => exact ⟨default, fun x h => by cases h⟩
      | some y =>
        obtain ⟨x, hx, hxy⟩ := all2_at hl i y hy
        have hi : i < vs.length := by rw [← hlen]; exact (List.getElem?_eq_some_iff.1 hx).1
        have hvi : vs[i]? = some vs[i] := by simp [hi]
        exact ⟨vs[i], fun z hz => by cases hz; exact ⟨hv _ _ hvi, (hR.at hx hvi).2, ih k (by omega) (hR.at hx hvi).1 hxy⟩⟩
    have key := R.bptr (c := c0 (lentI0 c F (oldB w0 L))) (w := w) (xs := xs') (j := j') b 0 (fun i => (hmem i).choose) (.inr (.inl ⟨s, hFb⟩))
      (fun i x hx => List.all_eq_true.1 hfree _ (List.mem_of_getElem? hx))
      (fun i x hx => by rw [Nat.zero_add]; exact ((hmem i).choose_spec x hx).1)
      (fun i x hx => ((hmem i).choose_spec x hx).2.1)
      (fun i x hx => ((hmem i).choose_spec x hx).2.2)
    simpa using key
  · rename_i k s i j xs' j'
    split at hl
    case h_2 => exact hl.elim
    rename_i sz es hs
    obtain ⟨e, he, rfl, rfl⟩ := hl
    cases hX with | @eptr _ _ _ b cap sz' hp =>
    rcases h.rowAll (h.look hm hp hs) with ⟨hat, rfl⟩ | ⟨b', cap', hat, a3, a4, a6, hFb, hcell⟩
    · simp at he
    rw [hp] at hat; cases hat
    have hmem : ∀ k : Nat, ∃ v, ∀ x, e[k]? = some x → w.cell? ⟨b, i * sz + k, none⟩ = some v ∧ v.oneCell' = true ∧ x.isCell = true ∧ R c w x v := fun k => by
      cases hx : e[k]? with
      | none => exact ⟨default, fun x h => by cases h⟩
      | some x => obtain ⟨v, hv⟩ := hcell i k x (by simp [elt, he, hx]); exact ⟨v, fun y hy => by cases hy; exact hv⟩
    have hget : ∀ (i : Nat) (x : AV), (e.map AV.bor)[i]? = some x → ∃ y, e[i]? = some y ∧ x = y.bor := fun i x hx => by
      rw [List.getElem?_map] at hx
      cases hy : e[i]? with
      | none => simp [hy] at hx
      | some y => simp [hy] at hx; exact ⟨y, rfl, hx.symm⟩
    have hfr : ∀ y : AV, y.isCell = true → y.isFree = true := fun y hy => by cases y <;> simp_all [AV.isCell, AV.isFree]
    exact R.bptr (c := c0 (lentI0 c F (oldB w0 L))) (w := w) (xs := e.map AV.bor) (j := j') b (i * sz) (fun i => (hmem i).choose) (.inr (.inl ⟨s, hFb⟩))
      (fun i x hx => by obtain ⟨y, hy, rfl⟩ := hget i x hx; exact AV.bor_free (hfr _ ((hmem i).choose_spec y hy).2.2.1))
      (fun i x hx => by obtain ⟨y, hy, rfl⟩ := hget i x hx; exact ((hmem i).choose_spec y hy).1)
      (fun i x hx => by obtain ⟨y, hy, rfl⟩ := hget i x hx; exact ((hmem i).choose_spec y hy).2.1)
      (fun i x hx => by obtain ⟨y, hy, rfl⟩ := hget i x hx; exact (((hmem i).choose_spec y hy).2.2.2.free (c' := c0 (lentI0 c F (oldB w0 L))) (fun b hb => .inl hb) (fun _ _ => rfl) (hfr _ ((hmem i).choose_spec y hy).2.2.1)).bor)
  · rename_i k f caps f' caps'
    obtain ⟨rfl, hl⟩ := hl
    cases hX with | fn a1 a0 a2 =>
    refine .fn (by rw [a1, all2_len hl]) a0 fun i y v hy hv => ?_
    obtain ⟨x, hx, hxy⟩ := all2_at hl i y hy
    exact ih k (by omega) (a2 i x v hx hv) hxy
  · exact hl.elim

theorem lendT_ok (h : H w0 L n σ a w c F) {m : Nat → Option Blk} (hm : Sup σ m) {t u : T} {v : Value} (hX : RT c w t v) (hl : LendT m t u) : RT (c0 (lentI0 c F (oldB w0 L))) w u v := by
  unfold LendT at hl
  split at hl
  · trivial
  · exact ⟨lendA_ok h hm 4 hX.1 hl, hX.2⟩
  · rename_i xs ys
    cases v <;> try exact hX.elim
    rename_i vs
    have hR : RL c w xs vs.toList := hX
    refine RL.of (by rw [← all2_len hl]; exact hR.length) fun i y v hy hv => ?_
    obtain ⟨x, hx, hxy⟩ := all2_at hl i y hy
    exact ⟨lendA_ok h hm 4 (hR.at hx hv).1 hxy, (hR.at hx hv).2⟩
  · exact hl.elim

theorem all2_mono {p q : AV → AV → Prop} (h : ∀ x y, p x y → q x y) : ∀ {xs ys : List AV}, all2 p xs ys → all2 q xs ys
  | [], [], _ => trivial
  | _ :: _, _ :: _, hp => ⟨h _ _ hp.1, all2_mono h hp.2⟩
theorem LendA.up {m m' : Nat → Option Blk} (hm : ∀ s k, m s = some k → m' s = some k) : ∀ (k : Nat) {x y : AV}, LendA m k x y → LendA m' k x y := by
  intro k
  induction k using Nat.strongRecOn with
  | _ k ih =>
  intro x y h
  unfold LendA at h ⊢
  split at h <;> try exact h
  · exact h.imp id (Or.imp id fun ⟨s, hs⟩ => ⟨s, hm _ _ hs⟩)
  · exact h.imp id fun ⟨s, hs⟩ => ⟨s, hm _ _ hs⟩
  · split at h
    · rename_i hs; rw [hm _ _ hs]; exact h
    · exact h.elim
  · split at h
    · rename_i hs; rw [hm _ _ hs]; exact ⟨h.1, h.2.1, all2_mono (fun x y => ih _ (by omega)) h.2.2⟩
    · exact h.elim
  · split at h
    · rename_i hs; rw [hm _ _ hs]; exact h
    · exact h.elim
  · exact ⟨h.1, all2_mono (fun x y => ih _ (by omega)) h.2⟩
theorem LendT.up {m m' : Nat → Option Blk} (hm : ∀ s k, m s = some k → m' s = some k) {t u : T} (h : LendT m t u) : LendT m' t u := by
  unfold LendT at h ⊢
  split at h <;> try exact h
  · exact h.up hm
  · exact all2_mono (fun x y h => h.up hm) h
theorem LendTs.up {m m' : Nat → Option Blk} (hm : ∀ s k, m s = some k → m' s = some k) : ∀ {ts us : List T}, LendTs m ts us → LendTs m' ts us
  | [], [], _ => trivial
  | _ :: _, _ :: _, h => ⟨h.1.up hm, LendTs.up hm h.2⟩

end
end Go.Proofs.Ytlijeincckbdaaa
