/- The abstract machine: the operations that read. -/
import Derived.Test.YtlijeincckbdaaaA3
namespace Go.Proofs.Ytlijeincckbdaaa
open Go.RowKit
set_option linter.unusedSimpArgs false
set_option linter.unusedVariables false

section
variable {P : Program} {w0 w : World} {L : Nat → Prop} {n : Nat} {σ : AS} {a : Act} {c : Ctx} {F : Nat → Nat → Prop}

theorem tyI_some {t : TypeId} {sz : Nat} {g : Bool} (h : tyI P t = some (sz, g)) : ∃ i d, P.info? t = some i ∧ P.underlying t = some d ∧ i.size = sz ∧ aggD d = g ∧ (g = false → sz = 1) := by
  unfold tyI at h
  split at h
  · rename_i i d hi hd
    split at h
    · rename_i hc
      simp at h
      refine ⟨i, d, hi, hd, h.1, h.2, fun hg => ?_⟩
      rw [h.2, hg] at hc
      simp at hc
      omega
    · cases h
  · cases h

theorem run_isAgg {t : TypeId} {d : TypeDesc} (hd : P.underlying t = some d) (w : World) : (isAgg t).run P w = .ok (aggD d) w := by
  cases d <;> simp [isAgg, run_underlying hd, aggD]

theorem run_sizeOf {t : TypeId} {i : TypeInfo} (hi : P.info? t = some i) (w : World) : (sizeOf t).run P w = .ok i.size w := by simp [sizeOf, typeInfo, hi]

/-- A variable that is read, cell by cell. -/
theorem run_loadVar_cells {t : TypeId} {sz : Nat} {g : Bool} (h : tyI P t = some (sz, g)) {b o : Nat} (vs : List Value) (hl : vs.length = sz) (hv : ∀ k v, vs[k]? = some v → w.cell? ⟨b, o + k, none⟩ = some v) :
    (loadVar t ⟨b, o, none⟩).run P w = .ok (if g then .agg vs.toArray else vs.headD default) w := by
  obtain ⟨i, d, hi, hd, rfl, rfl, h1⟩ := tyI_some h
  have hadd : ∀ k, (⟨b, o, none⟩ : Addr).add k = ⟨b, o + k, none⟩ := fun k => by unfold Addr.add; split <;> simp_all
  cases hg : aggD d with
  | true =>
    have := run_loadCells_list (P := P) w ⟨b, o, none⟩ vs (fun j v hj => by rw [hadd]; exact hv j v hj)
    rw [hl] at this
    simp [loadVar, run_isAgg hd, hg, run_sizeOf hi, this]
  | false =>
    have h2 := h1 hg
    rw [h2] at hl
    match vs, hl with
    | [v], _ =>
      have := hv 0 v rfl
      simp only [Nat.add_zero] at this
      simp [loadVar, run_isAgg hd, hg, this]

theorem RT_mkT {xs : List AV} {vs : List Value} {g : Bool} {sz : Nat} (hg : g = false → sz = 1) (hl : xs.length = sz) (h : RL c w xs vs) : RT c w (mkT g xs) (if g then .agg vs.toArray else vs.headD default) := by
  have h' := h.map_bor
  cases g with
  | true => simp only [mkT, if_true, RT]; exact h'
  | false =>
    have := hg rfl
    rw [this] at hl
    match xs, vs, hl, h with
    | [x], [v], _, h => simpa [mkT, RT] using ⟨h.1.1.bor, h.1.2⟩

theorem H.rowCell (h : H w0 L n σ a w c F) {s : Nat} {p : Bool} {sz : Nat} {es : List (List AV)} (hs : σ.mem s = some (.row p sz es)) {i : Nat} {e : List AV} (he : es[i]? = some e) :
    ∃ b cap, c.at_ s = some (.row b cap sz) ∧ e.length = sz ∧ F s b ∧ ∃ vs : List Value, RL c w e vs ∧ ∀ (k : Nat) (v : Value), vs[k]? = some v → w.cell? ⟨b, i * sz + k, none⟩ = some v := by
  rcases h.mem s _ hs with ⟨_, rfl, _⟩ | ⟨b, cap, hat, C, el, fz, G, a1, a2, a3, a4, a5, a6, a7, a8, a9, a10, a11, a12⟩
  · simp at he
  obtain ⟨hi, rfl⟩ := List.getElem?_eq_some_iff.1 he
  have hel := a6 _ (List.getElem_mem hi)
  refine ⟨b, cap, hat, hel, (a12 b).2 (.inl rfl), (C.toList.drop (i * sz)).take sz, ?_, fun k v hv => ?_⟩
  · have hfit : ∀ j, j < sz → i * sz + j < C.size := fun j hj => by rw [a5]; exact fit_lt hi hj a3
    refine RL.of ?_ fun k x v hx hv => ?_
    · rw [hel, List.length_take, List.length_drop, Array.length_toList, a5]
      have : (i + 1) * sz ≤ cap * sz := Nat.mul_le_mul_right _ (by omega)
      rw [Nat.add_mul] at this
      omega
    · rw [List.getElem?_take] at hv
      split at hv
      · rename_i hk
        rw [List.getElem?_drop] at hv
        have hx' : elt es i k = some x := by simp [elt, hi, hx]
        have hv' : C[i * sz + k]? = some v := by simpa using hv
        refine ⟨?_, a7 i k x v hx' hv'⟩
        rcases a8 i k x v hx' hv' with h1 | h1
        · refine h1.read fun q hq => ?_
          have hF : F s q := (a12 q).2 (.inr ⟨i, k, hq⟩)
          rw [h.inn s q hF]
          rintro (ht | ⟨_, _, ht⟩)
          · rw [hat] at ht; cases ht
          · rw [hat] at ht; cases ht; exact a9 i k hq
        · exact h1.2.2.1
      · cases hv
  · rw [List.getElem?_take] at hv
    split at hv
    · rw [List.getElem?_drop] at hv
      simp only [World.cell?, a1, Option.isSome_none, Bool.false_eq_true, if_false]
      simpa using hv
    · cases hv

theorem H.varCells (h : H w0 L n σ a w c F) {s : Nat} {xs : List AV} (hs : σ.mem s = some (.var xs)) :
    ∃ b, c.at_ s = some (.var b) ∧ F s b ∧ ∃ vs : List Value, RL c w xs vs ∧ ∀ (k : Nat) (v : Value), vs[k]? = some v → w.cell? ⟨b, k, none⟩ = some v := by
  obtain ⟨b, C, e, fz, a1, a2, a3, a4, a5⟩ := h.varCell hs
  refine ⟨b, a1, a5, C.toList, a4, fun k v hv => ?_⟩
  simp only [World.cell?, a2, Option.isSome_none, Bool.false_eq_true, if_false]
  simpa using hv

theorem R.bptrCells {xs : List AV} {j : Nat} {v : Value} (h : R c w (.bptr xs j) v) : ∃ b o, v = .pointer (some ⟨b, o + j, none⟩) ∧ c.I b ∧ (∀ (k : Nat) (x : AV), xs[k]? = some x → x.isFree = true) ∧ ∃ vs : List Value, RL c w xs vs ∧ ∀ (k : Nat) (v : Value), vs[k]? = some v → w.cell? ⟨b, o + k, none⟩ = some v := by
  cases h with
  | bptr b o vals a1 a0 a2 a3 a4 =>
    refine ⟨b, o, rfl, a1, a0, (List.range xs.length).map vals, RL.of (by simp) fun k x u hx hu => ?_, fun k u hu => ?_⟩
    · have hk := (List.getElem?_eq_some_iff.1 hx).1
      simp [hk] at hu
      subst hu
      exact ⟨a4 k x hx, a3 k x hx⟩
    · have hk : k < xs.length := by have := (List.getElem?_eq_some_iff.1 hu).1; simpa using this
      simp [hk] at hu
      subst hu
      exact a2 k xs[k] (by simp [hk])

def Post (w0 : World) (L : Nat → Prop) (n : Nat) (σ : AS) (a : Act) (news : News) (v : T) (V : Value) (w' : World) : Prop :=
  ∃ c' F', H w0 L n (σ.adds news) a w' c' F' ∧ RT c' w' v V

variable {K : T → News → Prop}
def Fresh (m : Nat → Option Blk) (news : News) : Prop := ∀ x ∈ news, m x.1 = none

theorem take_cells {xs : List AV} {vs : List Value} {b o j sz : Nat} (hv : ∀ (k : Nat) (v : Value), vs[k]? = some v → w.cell? ⟨b, o + k, none⟩ = some v) :
    ∀ (k : Nat) (v : Value), ((vs.drop j).take sz)[k]? = some v → w.cell? ⟨b, o + j + k, none⟩ = some v := fun k v h => by
  rw [List.getElem?_take] at h
  split at h
  · rw [List.getElem?_drop] at h
    rw [Nat.add_assoc]; exact hv _ _ h
  · cases h

theorem opLoad_ok {E : Tab} (hE : E.ok P) (h : H w0 L n σ a w c F) {m : Nat → Option Blk} (hm : Sup σ m) {t : TypeId} {x : T} {X : Value} (hX : RT c w x X) (hk : opLoad E m K t x) :
    ∃ v V, K v [] ∧ (Instr.loadAt t X).run P w = .ok V w ∧ RT c w v V := by
  unfold opLoad at hk
  split at hk
  case h_2 => exact hk.elim
  rename_i sz g hty
  replace hty := Tab.ty_ok hE hty
  have hg : g = false → sz = 1 := by obtain ⟨i, d, _, _, _, _, h1⟩ := tyI_some hty; exact h1
  split at hk
  · rename_i s j
    split at hk
    case h_2 => exact hk.elim
    rename_i xs hs
    split at hk
    case isFalse => exact hk.elim
    rename_i hle
    obtain ⟨hX, _⟩ := hX
    cases hX with | @ptr _ _ b hp =>
    replace hs := h.look hm hp hs
    obtain ⟨b', hat, _, vs, hR, hv⟩ := h.varCells hs
    rw [hp] at hat; cases hat
    have hl := hR.length
    have hc := take_cells (xs := xs) (b := b) (o := 0) (j := j) (sz := sz) (vs := vs) (w := w) (fun k v hkv => by rw [Nat.zero_add]; exact hv k v hkv)
    simp only [Nat.zero_add] at hc
    refine ⟨_, _, hk, ?_, RT_mkT hg (by simp; omega) ((hR.drop j).take sz)⟩
    simp only [Instr.loadAt, Instr.sureAddr, Sem.run_bind, Sem.run_pure, Result.andThen_ok]
    exact run_loadVar_cells hty _ (by simp; omega) hc
  · rename_i s i j
    split at hk
    case h_2 => exact hk.elim
    rename_i p rz es hs
    obtain ⟨e, he, hk⟩ := hk
    split at hk
    case isFalse => exact hk.elim
    rename_i hle
    obtain ⟨hX, _⟩ := hX
    cases hX with | @eptr _ _ _ b cap rz' hp =>
    replace hs := h.look hm hp hs
    obtain ⟨b', cap', hat, hel, _, vs, hR, hv⟩ := h.rowCell hs he
    rw [hp] at hat; cases hat
    have hl := hR.length
    have hc := take_cells (xs := e) (b := b) (o := i * rz) (j := j) (sz := sz) (vs := vs) (w := w) hv
    refine ⟨_, _, hk, ?_, RT_mkT hg (by simp; omega) ((hR.drop j).take sz)⟩
    simp only [Instr.loadAt, Instr.sureAddr, Sem.run_bind, Sem.run_pure, Result.andThen_ok]
    exact run_loadVar_cells hty _ (by simp; omega) hc
  · rename_i xs j
    split at hk
    case isFalse => exact hk.elim
    rename_i hle
    obtain ⟨hX, _⟩ := hX
    obtain ⟨b, o, rfl, _, _, vs, hR, hv⟩ := hX.bptrCells
    have hl := hR.length
    refine ⟨_, _, hk, ?_, RT_mkT hg (by simp; omega) ((hR.drop j).take sz)⟩
    simp only [Instr.loadAt, Instr.sureAddr, Sem.run_bind, Sem.run_pure, Result.andThen_ok]
    exact run_loadVar_cells hty _ (by simp; omega) (take_cells (xs := xs) hv)
  · exact hk.elim

theorem fldI_some {s f o sz : Nat} {g : Bool} (h : fldI P s f = some (o, sz, g)) : ∃ fs fd, P.underlying s = some (.struct fs) ∧ fs[f]? = some fd ∧ fd.offset = o ∧ tyI P fd.type = some (sz, g) ∧ sz ≠ 0 := by
  unfold fldI at h
  split at h
  · rename_i fs hs
    split at h
    · rename_i fd hf
      split at h
      · rename_i sz' g' ht
        split at h
        · cases h
        · simp at h; obtain ⟨rfl, rfl, rfl⟩ := h; exact ⟨fs, fd, hs, hf, rfl, ht, by assumption⟩
      · cases h
    · cases h
  · cases h

theorem run_fieldAt {s f o sz : Nat} {g : Bool} (h : fldI P s f = some (o, sz, g)) (b k : Nat) (w : World) :
    (Instr.fieldAt s (.pointer (some ⟨b, k, none⟩)) f).run P w = .ok (.pointer (some ⟨b, k + o, none⟩)) w := by
  obtain ⟨fs, fd, h1, h2, rfl, h4, h5⟩ := fldI_some h
  obtain ⟨i, d, hi, hd, rfl, _, _⟩ := tyI_some h4
  have hadd : (⟨b, k, none⟩ : Addr).add fd.offset = ⟨b, k + fd.offset, none⟩ := by unfold Addr.add; split <;> simp_all
  simp [Instr.fieldAt, run_underlying h1, h2, Instr.sureAddr, fieldPlace, run_sizeOf hi, h5, hadd]

theorem opFieldAddr_all {E : Tab} (hE : E.ok P) {s : TypeId} {f : Nat} {x : T} {X : Value} (hX : RT c w x X) (hk : opFieldAddr E K s f x) :
    ∃ v V, K v [] ∧ (∀ w' : World, (Instr.fieldAt s X f).run P w' = .ok V w') ∧ RT c w v V := by
  unfold opFieldAddr at hk
  split at hk
  case h_2 => exact hk.elim
  rename_i o sz g hf
  replace hf := Tab.fld_ok hE hf
  split at hk
  · obtain ⟨hX, _⟩ := hX
    cases hX with | ptr hp => exact ⟨_, _, hk, fun w' => run_fieldAt hf _ _ w', .ptr hp, rfl⟩
  · obtain ⟨hX, _⟩ := hX
    cases hX with | eptr hp => exact ⟨_, _, hk, fun w' => run_fieldAt hf _ _ w', by rw [Nat.add_assoc]; exact .eptr hp, rfl⟩
  · obtain ⟨hX, _⟩ := hX
    cases hX with | bptr b o' vals a1 a0 a2 a3 a4 => exact ⟨_, _, hk, fun w' => run_fieldAt hf _ _ w', by rw [Nat.add_assoc]; exact .bptr b o' vals a1 a0 a2 a3 a4, rfl⟩
  · exact hk.elim

theorem opFieldAddr_ok {E : Tab} (hE : E.ok P) {s : TypeId} {f : Nat} {x : T} {X : Value} (hX : RT c w x X) (hk : opFieldAddr E K s f x) :
    ∃ v V, K v [] ∧ (Instr.fieldAt s X f).run P w = .ok V w ∧ RT c w v V :=
  let ⟨v, V, h1, h2, h3⟩ := opFieldAddr_all hE hX hk
  ⟨v, V, h1, h2 w, h3⟩

theorem run_part {t sz : Nat} {g : Bool} (h : tyI P t = some (sz, g)) (cs : Array Value) (o : Nat) (hl : o + sz ≤ cs.size) (w : World) :
    (part t cs o).run P w = .ok (if g then .agg ((cs.toList.drop o).take sz).toArray else ((cs.toList.drop o).take sz).headD default) w := by
  obtain ⟨i, d, hi, hd, rfl, rfl, h1⟩ := tyI_some h
  cases hg : aggD d with
  | true =>
    simp [part, run_isAgg hd, hg, run_sizeOf hi]
    apply Array.ext'
    simp [List.take_drop, Nat.add_comm]
  | false =>
    have h2 := h1 hg
    have h3 : o < cs.size := by omega
    simp [part, run_isAgg hd, hg, h3, h2]
    rw [List.drop_eq_getElem_cons (by simpa using h3)]
    simp

theorem opField_ok {E : Tab} (hE : E.ok P) {s : TypeId} {f : Nat} {x : T} {X : Value} (hX : RT c w x X) (hk : opField E K s f x) :
    ∃ v V, K v [] ∧ (Instr.field s X f).run P w = .ok V w ∧ RT c w v V := by
  unfold opField at hk
  split at hk
  case h_2 => exact hk.elim
  rename_i o sz g hf
  replace hf := Tab.fld_ok hE hf
  split at hk
  case h_2 => exact hk.elim
  rename_i xs
  split at hk
  case isFalse => exact hk.elim
  rename_i hle
  cases X with
  | agg cs =>
    have hR : RL c w xs cs.toList := hX
    have hl := hR.length
    obtain ⟨fs, fd, h1, h2, rfl, h4, h5⟩ := fldI_some hf
    obtain ⟨i, d, _, _, _, _, hg⟩ := tyI_some h4
    refine ⟨_, _, hk, ?_, RT_mkT hg (by simp; omega) ((hR.drop fd.offset).take sz)⟩
    simp only [Instr.field, Sem.run_bind, run_underlying h1, Result.andThen_ok, h2, asAgg, Sem.run_pure]
    exact run_part h4 cs _ (by simpa [hl] using hle) w
  | _ => exact hX.elim

theorem elI_some {t e sz by_ : Nat} (h : elI P t = some (e, sz, by_)) : ∃ i, P.underlying t = some (.slice e) ∧ P.info? e = some i ∧ i.size = sz ∧ i.bytes = by_ ∧ sz ≠ 0 := by
  unfold elI at h
  split at h
  · rename_i e' hs
    split at h
    · rename_i i hi
      split at h
      · cases h
      · simp at h; obtain ⟨rfl, rfl, rfl⟩ := h; exact ⟨i, hs, hi, rfl, rfl, by assumption⟩
    · cases h
  · cases h

theorem run_indexAt {t e sz by_ : Nat} (h : elI P t = some (e, sz, by_)) (b o len cap : Nat) (k : IntKind) (i : Int) (h0 : 0 ≤ i) (h1 : i < len) (w : World) :
    (Instr.indexAt t (.slice (some ⟨b, o, none⟩) len cap) (.int k i)).run P w = .ok (.pointer (some ⟨b, o + i.toNat * sz, none⟩)) w := by
  obtain ⟨inf, hu, hi, rfl, _, _⟩ := elI_some h
  have hadd : (⟨b, o, none⟩ : Addr).add (i.toNat * inf.size) = ⟨b, o + i.toNat * inf.size, none⟩ := by unfold Addr.add; split <;> simp_all
  simp [Instr.indexAt, asIntOf, run_underlying hu, h0, h1, run_sizeOf hi, hadd]

theorem opIndexAddr_all {E : Tab} (hE : E.ok P) (h : H w0 L n σ a w c F) {m : Nat → Option Blk} (hm : Sup σ m) {t : TypeId} {x i : T} {X I : Value} (hX : RT c w x X) (hI : RT c w i I) (hk : opIndexAddr E m K t x i) :
    ∃ v V, K v [] ∧ (∀ w' : World, (Instr.indexAt t X I).run P w' = .ok V w') ∧ RT c w v V := by
  unfold opIndexAddr at hk
  split at hk
  case h_2 => exact hk.elim
  rename_i e sz by_ he
  replace he := Tab.el_ok hE he
  split at hk
  · rename_i s off len ik q
    obtain ⟨qn, rfl, h1, hk⟩ := hk
    split at hk
    case h_2 => exact hk.elim
    rename_i p rz es hs
    split at hk
    case isFalse => exact hk.elim
    rename_i hrz
    subst hrz
    obtain ⟨hX, _⟩ := hX
    obtain ⟨hI, _⟩ := hI
    cases hI
    cases hX with
    | locnil hn => exact absurd h1 (by simp)
    | @loc _ _ _ b cap sz A hat hle hA =>
      replace hs := h.look hm hat hs
      have hsz : sz = rz := by
        rcases h.mem s _ hs with ⟨h1, _⟩ | ⟨b', cap', h1, _⟩ <;> rw [hat] at h1 <;> cases h1
        rfl
      subst hsz
      have := hA (by omega)
      subst this
      refine ⟨_, _, hk, fun w' => run_indexAt he _ _ _ _ _ _ (by omega) (by omega) w', ?_, rfl⟩
      rw [show off * sz + ((qn : Int)).toNat * sz = (off + qn) * sz + 0 by rw [Nat.add_mul, Int.toNat_natCast]; omega]
      exact .eptr hat
  · rename_i own rz es ik q
    split at hk
    case isFalse => exact hk.elim
    rename_i hrz
    subst hrz
    obtain ⟨qn, rfl, e', he', hk⟩ := hk
    obtain ⟨hX, _⟩ := hX
    obtain ⟨hI, _⟩ := hI
    cases hI
    cases hX with
    | @row _ _ _ A cap b o vals a1 a2 a3 a4 a0 a5 a6 a7 =>
      obtain ⟨hlt, rfl⟩ := List.getElem?_eq_some_iff.1 he'
      obtain ⟨rfl, hIb⟩ := a3 (by omega)
      refine ⟨_, _, hk, fun w' => run_indexAt he _ _ _ _ _ _ (by omega) (by omega) w', ?_, rfl⟩
      have hx : ∀ (k : Nat) (x : AV), es[qn][k]? = some x → elt es qn k = some x := fun k x hx => by simp [elt, hlt, hx]
      have := R.bptr (c := c) (w := w) (xs := es[qn]) (j := 0) b (o + qn * rz) (fun k => vals qn k) hIb
        (fun k x hk => by have := a0 _ _ _ (hx k x hk); cases x <;> simp_all [AV.isCell, AV.isFree]) (fun k x hk => a5 _ _ _ (hx k x hk)) (fun k x hk => a6 _ _ _ (hx k x hk)) (fun k x hk => a7 _ _ _ (hx k x hk))
      simpa using this
  · exact hk.elim
theorem opIndexAddr_ok {E : Tab} (hE : E.ok P) (h : H w0 L n σ a w c F) {m : Nat → Option Blk} (hm : Sup σ m) {t : TypeId} {x i : T} {X I : Value} (hX : RT c w x X) (hI : RT c w i I) (hk : opIndexAddr E m K t x i) :
    ∃ v V, K v [] ∧ (Instr.indexAt t X I).run P w = .ok V w ∧ RT c w v V :=
  let ⟨v, V, h1, h2, h3⟩ := opIndexAddr_all hE h hm hX hI hk
  ⟨v, V, h1, h2 w, h3⟩

end
end Go.Proofs.Ytlijeincckbdaaa
