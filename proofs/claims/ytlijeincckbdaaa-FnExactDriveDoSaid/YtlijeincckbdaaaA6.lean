/- The abstract machine: the operations that make memory. -/
import Derived.Test.YtlijeincckbdaaaA5
import Derived.Lib.ConvBytes
import Derived.Laws.IdiomStrings
import Derived.Laws.BytesString
namespace Go.Proofs.Ytlijeincckbdaaa
open Go.RowKit
set_option linter.unusedSimpArgs false
set_option linter.unusedVariables false

section
variable {P : Program} {w0 w : World} {L : Nat → Prop} {n : Nat} {σ : AS} {a : Act} {c : Ctx} {F : Nat → Nat → Prop} {K : T → News → Prop}

theorem zrI_some {t : TypeId} {zs : List Value} (h : zrI P t = some zs) : ∃ i z, P.info? t = some i ∧ i.zero = some z ∧ z.cells.toList = zs ∧ zs.all (·.oneCell') = true := by
  unfold zrI at h
  split at h
  · rename_i i hi
    split at h
    · rename_i z hz
      split at h
      · rename_i ho; cases h; exact ⟨i, z, hi, hz, rfl, ho⟩
      · cases h
    · cases h
  · cases h

theorem opAlloc_ok {E : Tab} (hE : E.ok P) (h : H w0 L n σ a w c F) {site : Nat} {t : TypeId} (hk : opAlloc E K site t) :
    ∃ v news, K v news ∧ (Fresh σ.mem news → ∃ V w', (Instr.alloc t true undef).run P w = .ok V w' ∧ Post w0 L n σ a news v V w') := by
  unfold opAlloc at hk
  split at hk
  case h_2 => exact hk.elim
  rename_i zs hz
  obtain ⟨i, z, hi, hzz, rfl, hall⟩ := zrI_some (Tab.zr_ok hE hz)
  refine ⟨_, _, hk, fun hf => ?_⟩
  have hs := hf _ (List.mem_singleton.2 rfl)
  obtain ⟨c', F', hH, hat⟩ := h.newVar (C := z.cells) (e := t) hs (RL.lits c w _ hall)
  exact ⟨.pointer (some ⟨w.heap.size, 0, none⟩), _, by simp [Instr.alloc, zeroValue, typeInfo, hi, hzz, newVar, newRow, undef], c', F', hH, .ptr hat, rfl⟩

theorem RT_cells {x : T} {X : Value} {xs : List AV} (h : x.cells = some xs) (hX : RT c w x X) : RL c w xs X.cells.toList := by
  cases x with
  | one y =>
    simp [T.cells] at h; subst h
    obtain ⟨h1, h2⟩ := hX
    cases X <;> first | exact ⟨⟨h1, h2⟩, trivial⟩ | simp [Value.oneCell'] at h2
  | agg ys =>
    simp [T.cells] at h; subst h
    cases X <;> first | exact hX | exact hX.elim
  | dead => simp [T.cells] at h
  | tup => simp [T.cells] at h

theorem opBox_ok (h : H w0 L n σ a w c F) {site : Nat} {t : TypeId} {x : T} {X : Value} (hX : RT c w x X) (hk : opBox K site x) :
    ∃ v news, K v news ∧ (Fresh σ.mem news → ∃ V w', (Instr.box t X).run P w = .ok V w' ∧ Post w0 L n σ a news v V w') := by
  unfold opBox at hk
  split at hk
  case h_2 => exact hk.elim
  rename_i xs hx
  refine ⟨_, _, hk, fun hf => ?_⟩
  have hs := hf _ (List.mem_singleton.2 rfl)
  obtain ⟨c', F', hH, hat⟩ := h.newVar (C := X.cells) (e := t) hs (RT_cells hx hX)
  exact ⟨.pointer (some ⟨w.heap.size, 0, none⟩), _, by simp [Instr.box, newVar, newRow], c', F', hH, .ptr hat, rfl⟩

/-- A new row whose elements own nothing. -/
theorem H.newRow (h : H w0 L n σ a w c F) {w1 : World} (hb : Below w.heap.size w w1) {s : Nat} (hs : σ.mem s = none) {p : Bool} {sz cap : Nat} {es : List (List AV)} {C : Array Value} {e : TypeId} {fz : Nat × Nat} {b : Nat}
    (hnew : w.heap.size ≤ b) (hC : w1.heap[b]? = some (.cells C e fz)) (hfz : Unfz sz C fz) (hcap : es.length ≤ cap) (hm : cap ≤ maxLen) (hsz : C.size = cap * sz) (hel : ∀ e ∈ es, e.length = sz)
    (hR : ∀ (i j : Nat) (x : AV) (v : Value), elt es i j = some x → C[i * sz + j]? = some v → (R c w x v ∧ v.oneCell' = true) ∧ (p = true → x.isData = true) ∧ (x.isCell = true → x.isData = true)) :
    ∃ c' F', H w0 L n (σ.add s (.row p sz es)) a w1 c' F' ∧ c'.at_ s = some (.row b cap sz) := by
  have hd := h.dom s hs
  refine ⟨_, _, h.addSite (i := .row b cap sz) (G := fun k => k = b) hb hs (fun k hk => by
    subst hk
    exact ⟨hnew, (Array.getElem?_eq_some_iff.1 hC).1⟩) ?_, by simp [Ctx.add]⟩
  obtain ⟨e1, e2⟩ := Ctx.add_ext hd.1 (.row b cap sz) (fun k => (fun k => k = b) k ∧ ¬ (SI.row b cap sz).isTop k)
  have hR' : ∀ (i j : Nat) (x : AV) (v : Value), elt es i j = some x → C[i * sz + j]? = some v → R (c.add s (.row b cap sz) (fun k => (fun k => k = b) k ∧ ¬ (SI.row b cap sz).isTop k)) w1 x v := fun i j x v hx hv =>
    (hR i j x v hx hv).1.1.mono e1 e2 (fun b hI => hb.block b (h.imm b hI))
  refine .inr ⟨b, cap, by simp [Ctx.add], C, e, fz, fun _ _ _ => False, hC, hfz, hcap, hm, hsz, hel, fun i j x v hx hv => (hR i j x v hx hv).1.2, fun i j x v hx hv => ?_, fun _ _ h => h, fun _ _ _ _ _ h => h.elim, fun _ _ _ h => h.elim, fun k => by simp⟩
  cases hd : x.isCell with
  | true => exact .inl (.plain ((hR i j x v hx hv).2.2 hd) (hR' i j x v hx hv) (fun _ h => h))
  | false =>
    cases p with
    | true =>
      have := (hR i j x v hx hv).2.1 rfl
      cases x <;> simp_all [AV.isData, AV.isCell]
    | false => exact .inr ⟨rfl, fun _ h => h, hR' i j x v hx hv, by first | exact hd | rfl⟩

theorem elt_replicate {k : Nat} {e : List AV} {i j : Nat} {x : AV} (h : elt (List.replicate k e) i j = some x) : i < k ∧ e[j]? = some x := by
  unfold elt at h
  rw [List.getElem?_replicate] at h
  split at h
  · exact ⟨by assumption, by simpa using h⟩
  · simp at h

theorem opMakeSlice_ok {E : Tab} (hE : E.ok P) (h : H w0 L n σ a w c F) {site : Nat} {t : TypeId} {l k : T} {X Y : Value} (hX : RT c w l X) (hY : RT c w k Y) (hk : opMakeSlice E K site t l k) :
    ∃ v news, K v news ∧ (Fresh σ.mem news → ∃ V w', (Instr.makeSlice t X Y).run P w = .ok V w' ∧ Post w0 L n σ a news v V w') := by
  unfold opMakeSlice at hk
  split at hk
  case h_2 => exact hk.elim
  rename_i e sz by_ kl l kc m he
  split at hk
  case h_2 => exact hk.elim
  rename_i zs hz
  split at hk
  case isFalse => exact hk.elim
  rename_i hzs
  obtain ⟨ln, rfl, h1, h2, h3, hk⟩ := hk
  have h0 : (0 : Int) ≤ (ln : Int) := Int.natCast_nonneg ln
  obtain ⟨inf, hu, hi, rfl, rfl, hne⟩ := elI_some (Tab.el_ok hE he)
  obtain ⟨i, z, hi', hzz, rfl, hall⟩ := zrI_some (Tab.zr_ok hE hz)
  rw [hi] at hi'; cases hi'
  obtain rfl := one_lit hX
  obtain rfl := one_lit hY
  refine ⟨_, _, hk, fun hf => ?_⟩
  have hs := hf _ (List.mem_singleton.2 rfl)
  have hrun := run_make (P := P) w t e inf z hu hi hzz kl kc ln m h0 h1 h2 (by have : maxLen ≤ 9223372036854775807 := (by decide); omega)
  have hmc : (madeCells z.cells (m.toNat * inf.size)).size = m.toNat * inf.size := by simp [madeCells]
  have hzsz : z.cells.size = inf.size := by simpa using hzs
  obtain ⟨c', F', hH, hat⟩ := h.newRow (w1 := w.alloc (.cells (madeCells z.cells (m.toNat * inf.size)) e)) ((Below.refl _ _).alloc (Nat.le_refl _) _) hs (p := true) (sz := inf.size) (cap := m.toNat)
    (es := List.replicate ln (z.cells.toList.map .lit)) (b := w.heap.size) (Nat.le_refl _) (heap_alloc_new w _) (fun i _ => by simp) (by simp; omega) (by omega) hmc (fun e' he' => by rw [List.eq_of_mem_replicate he']; simpa using hzs) (fun i j x v hx hv => by
      obtain ⟨hi1, hx⟩ := elt_replicate hx
      rw [List.getElem?_map] at hx
      cases hzj : z.cells.toList[j]? with
      | none => simp [hzj] at hx
      | some u =>
        simp [hzj] at hx
        subst hx
        have hj : j < inf.size := by have := (List.getElem?_eq_some_iff.1 hzj).1; rw [hzs] at this; exact this
        have hlt : i * inf.size + j < m.toNat * inf.size := fit_lt hi1 hj (by omega)
        have hvu : v = u := by
          have hj' : j < z.cells.size := by omega
          have hmod : (i * inf.size + j) % z.cells.size = j := by rw [hzsz, Nat.add_comm, Nat.add_mul_mod_self_right, Nat.mod_eq_of_lt hj]
          have h7 : (madeCells z.cells (m.toNat * inf.size))[i * inf.size + j]? = some z.cells[j] := by
            simp [madeCells, hlt, hmod, hj']
          rw [h7] at hv
          have := (List.getElem?_eq_some_iff.1 hzj).2
          cases hv
          simpa using this
        subst hvu
        exact ⟨⟨.lit v, List.all_eq_true.1 hall _ (List.mem_of_getElem? hzj)⟩, fun _ => rfl, fun _ => rfl⟩)
  refine ⟨_, _, hrun, c', F', hH, ?_, rfl⟩
  have := R.loc (c := c') (w := w.alloc (.cells (madeCells z.cells (m.toNat * inf.size)) e)) (off := 0) (len := ln) (A := some ⟨w.heap.size, 0, none⟩) hat (by omega) (fun _ => by simp)
  simpa using this

theorem foldl_set (ys : List Value) : ∀ (C : Array Value) (o k : Nat), o + k + ys.length ≤ C.size →
    ((ys.zipIdx k).foldl (fun cs (x : Value × Nat) => cs.setIfInBounds (o + x.2) x.1) C).toList = C.toList.take (o + k) ++ ys ++ C.toList.drop (o + k + ys.length) := by
  induction ys with
  | nil => intro C o k h; simp
  | cons y ys ih =>
    intro C o k h
    simp only [List.zipIdx_cons, List.foldl_cons]
    rw [ih _ o (k + 1) (by simp at h ⊢; omega)]
    have := list_seg_step C.toList (o + k) y ys (by simp at h ⊢; omega)
    simpa [Array.toList_setIfInBounds, Nat.add_assoc, Nat.add_comm 1] using this

theorem RL.append : ∀ {xs ys : List AV} {vs us : List Value}, RL c w xs vs → RL c w ys us → RL c w (xs ++ ys) (vs ++ us)
  | [], _, [], _, _, h => h
  | _ :: _, _, _ :: _, _, h, k => ⟨h.1, RL.append h.2 k⟩

/-- Operands with their numbers. -/
def RTN (c : Ctx) (w : World) : List (Nat × T) → List (Nat × Value) → Prop
  | [], [] => True
  | (i, t) :: ts, (j, v) :: vs => i = j ∧ RT c w t v ∧ RTN c w ts vs
  | _, _ => False

theorem fill_ok {place : Nat → Option (Nat × Nat)} : ∀ {ps : List (Nat × T)} {vs : List (Nat × Value)} {xs ys : List AV} {C : Array Value}, RTN c w ps vs → RL c w xs C.toList → fillA place ps xs = some ys →
    ∃ D, Instr.fill place C vs = some D ∧ RL c w ys D.toList
  | [], [], xs, ys, C, _, hR, h => by simp [fillA] at h; subst h; exact ⟨C, rfl, hR⟩
  | (i, t) :: ps, (j, v) :: vs, xs, ys, C, hN, hR, h => by
    obtain ⟨rfl, ht, hN⟩ := hN
    simp only [fillA] at h
    split at h
    case h_2 => cases h
    rename_i o sz zs hp hz
    split at h
    case isFalse => cases h
    rename_i hc
    have hcells := RT_cells hz ht
    have hl := hcells.length
    have hl2 := hR.length
    have hvs : v.cells.size = sz := by rw [← hc.1, hl]; simp
    have hcs : o + sz ≤ C.size := by have := hc.2; rw [hl2] at this; simpa using this
    have hfold := foldl_set v.cells.toList C o 0 (by simp [hvs]; omega)
    obtain ⟨D, hD, hRD⟩ := fill_ok (place := place) (ps := ps) (vs := vs) (C := v.cells.zipIdx.foldl (fun cs (x : Value × Nat) => cs.setIfInBounds (o + x.2) x.1) C) hN (by
      rw [show v.cells.zipIdx.foldl (fun cs (x : Value × Nat) => cs.setIfInBounds (o + x.2) x.1) C = (v.cells.toList.zipIdx 0).foldl (fun cs (x : Value × Nat) => cs.setIfInBounds (o + x.2) x.1) C by
        rw [← Array.foldl_toList, Array.toList_zipIdx]]
      rw [hfold]
      simp only [Nat.add_zero, Array.length_toList, hvs]
      exact ((hR.take o).append hcells).append (hR.drop (o + sz))) h
    refine ⟨D, ?_, hRD⟩
    simp only [Instr.fill, hp]
    rw [if_neg (by simp [hvs]; omega)]
    exact hD

theorem mapM_places (fs : Array Field) (hf : ∀ i, i < fs.size → ∃ (f : Field) (sz : Nat), fs[i]? = some f ∧ ∃ inf, P.info? f.type = some inf ∧ inf.size = sz) (w : World) :
    ∃ pl : Array (Nat × Nat), (fs.mapM fun f => (Prod.mk f.offset <$> sizeOf f.type : Sem (Nat × Nat))).run P w = .ok pl w ∧ ∀ i : Nat, pl[i]? = (fs[i]?).map fun f => (f.offset, ((P.info? f.type).map (·.size)).getD 0) := by
  refine ⟨fs.map fun f => (f.offset, ((P.info? f.type).map (·.size)).getD 0), ?_, fun i => by simp⟩
  rw [Array.mapM_eq_mapM_toList]
  have key : ∀ l : List Field, (∀ f ∈ l, ∃ inf, P.info? f.type = some inf) → (l.mapM fun f => (Prod.mk f.offset <$> sizeOf f.type : Sem (Nat × Nat))).run P w = .ok (l.map fun f => (f.offset, ((P.info? f.type).map (·.size)).getD 0)) w := by
    intro l
    induction l with
    | nil => intro _; simp
    | cons f l ih =>
      intro h
      obtain ⟨inf, hi⟩ := h f (by simp)
      have := ih (fun g hg => h g (by simp [hg]))
      simp [List.mapM_cons, run_sizeOf hi, this, hi]
  have h1 := key fs.toList (fun f hf' => by
    obtain ⟨i, hi⟩ := List.getElem?_of_mem hf'
    obtain ⟨f', sz, h1, inf, h2, _⟩ := hf i (by have := (List.getElem?_eq_some_iff.1 hi).1; simpa using this)
    have : f' = f := by
      have h3 : fs[i]? = some f := by simpa using hi
      rw [h1] at h3; cases h3; rfl
    subst this
    exact ⟨inf, h2⟩)
  simp only [Sem.run_map, h1, Result.andThen_ok]
  congr 1
  apply Array.ext'
  simp

theorem opBuild_ok {E : Tab} (hE : E.ok P) {t : TypeId} {ps : List (Nat × T)} {vs : List (Nat × Value)} (hX : RTN c w ps vs) (hk : opBuild E K t ps) :
    ∃ v V, K v [] ∧ (Instr.build t vs.toArray).run P w = .ok V w ∧ RT c w v V := by
  unfold opBuild at hk
  split at hk
  case h_2 => exact hk.elim
  rename_i zs nf hz hu'
  obtain ⟨fs, hu, rfl⟩ := Tab.struct_ok hE hu'
  split at hk
  case h_2 => exact hk.elim
  rename_i xs hx hall'
  have hall : ∀ i, i < fs.size → ∃ x, E.fld t i = some x ∧ fldI P t i = some x := fun i hi => by
    obtain ⟨x, hx⟩ := Option.isSome_iff_exists.1 (List.all_eq_true.1 hall' i (List.mem_range.2 hi))
    exact ⟨x, hx, Tab.fld_ok hE hx⟩
  obtain ⟨i, z, hi, hzz, rfl, hone⟩ := zrI_some (Tab.zr_ok hE hz)
  have hfld : ∀ i, i < fs.size → ∃ (f : Field) (o sz : Nat) (g : Bool), fs[i]? = some f ∧ fldI P t i = some (o, sz, g) ∧ f.offset = o ∧ ∃ inf, P.info? f.type = some inf ∧ inf.size = sz := fun i hi => by
    obtain ⟨⟨o, sz, g⟩, _, hf⟩ := hall i hi
    obtain ⟨fs', fd, h1, h2, h3, h4, _⟩ := fldI_some hf
    rw [hu] at h1; cases h1
    obtain ⟨inf, d, h5, _, h6, _⟩ := tyI_some h4
    exact ⟨fd, o, sz, g, h2, hf, h3, inf, h5, h6⟩
  obtain ⟨pl, hpl, hpl2⟩ := mapM_places (P := P) fs (fun i hi => by
    obtain ⟨f, o, sz, g, h1, _, _, inf, h2, h3⟩ := hfld i hi
    exact ⟨f, sz, h1, inf, h2, h3⟩) w
  have hplace : ∀ (l : List (Nat × T)) (xs ys : List AV), fillA (fun i => match E.fld t i with | some x => some (x.1, x.2.1) | none => none) l xs = some ys → fillA (fun i => pl[i]?) l xs = some ys := by
    intro l
    induction l with
    | nil => intro xs ys h; exact h
    | cons p l ih =>
      intro xs ys h
      obtain ⟨i, u⟩ := p
      simp only [fillA] at h ⊢
      split at h
      case h_2 => cases h
      rename_i o sz zs hp hz
      have hpl3 : pl[i]? = some (o, sz) := by
        split at hp
        · rename_i x hx
          cases hp
          obtain ⟨fs', fd, h1, h2, h3, h4, _⟩ := fldI_some (Tab.fld_ok hE hx)
          rw [hu] at h1; cases h1
          obtain ⟨inf, d, h5, _, h6, _⟩ := tyI_some h4
          rw [hpl2, h2]
          simp [h3, h5, h6]
        · cases hp
      rw [hpl3, hz]
      simp only
      split at h
      · rename_i hc; rw [if_pos hc]; exact ih _ _ h
      · cases h
  replace hx := hplace _ _ _ hx
  obtain ⟨D, hD, hR⟩ := fill_ok (place := fun i => pl[i]?) (C := z.cells) hX (RL.lits c w _ hone) hx
  exact ⟨_, .agg D, hk, by simp [Instr.build, zeroValue, typeInfo, hi, hzz, run_underlying hu, hpl, hD], hR⟩

theorem chunk_length (sz : Nat) : ∀ (k : Nat) (xs : List AV), (chunk sz xs k).length = k
  | 0, _ => rfl
  | k + 1, xs => by simp [chunk, chunk_length sz k]
theorem chunk_get (sz : Nat) : ∀ (k : Nat) (xs : List AV) (i : Nat), i < k → (chunk sz xs k)[i]? = some ((xs.drop (i * sz)).take sz)
  | k + 1, xs, 0, _ => by simp [chunk]
  | k + 1, xs, i + 1, h => by
    simp only [chunk, List.getElem?_cons_succ]
    rw [chunk_get sz k _ i (by omega), List.drop_drop]
    congr 3
    rw [Nat.add_mul]; omega

theorem RL.replicate_flat {zs : List Value} (hz : zs.all (·.oneCell') = true) : ∀ k, RL c w ((List.replicate k (zs.map .lit)).flatten) ((List.replicate k zs).flatten)
  | 0 => trivial
  | k + 1 => by
    simp only [List.replicate_succ, List.flatten_cons]
    exact (RL.lits c w zs hz).append (RL.replicate_flat hz k)

theorem range_map_flat (z : Array Value) (hz : 0 < z.size) (k : Nat) : ((Array.range (k * z.size)).map (z[· % z.size]!)).toList = (List.replicate k z.toList).flatten := by
  apply List.ext_getElem?
  intro i
  by_cases hi : i < k * z.size
  · have hm := Nat.mod_lt i hz
    have e1 : ((Array.range (k * z.size)).map (z[· % z.size]!)).toList[i]? = some (z[i % z.size]) := by
      simp [hi, hm]
    rw [e1]
    induction k generalizing i with
    | zero => omega
    | succ k ih =>
      simp only [List.replicate_succ, List.flatten_cons]
      by_cases h2 : i < z.size
      · rw [List.getElem?_append_left (by simpa using h2)]
        simp [Nat.mod_eq_of_lt h2, h2]
      · rw [List.getElem?_append_right (by simpa using Nat.le_of_not_lt h2)]
        simp only [Array.length_toList]
        have h3 : (i - z.size) % z.size = i % z.size := by rw [← Nat.mod_eq_sub_mod (Nat.le_of_not_lt h2)]
        have hk : i - z.size < k * z.size := by rw [Nat.add_mul] at hi; omega
        have := ih (i - z.size) hk (Nat.mod_lt _ hz) (by simp [hk, h3, hm])
        rw [← this]
        simp [h3]
  · rw [List.getElem?_eq_none (by simp; omega), List.getElem?_eq_none (by simp; omega)]

theorem opBuildSlice_ok {E : Tab} (hE : E.ok P) (h : H w0 L n σ a w c F) {site len : Nat} {t : TypeId} {ps : List (Nat × T)} {vs : List (Nat × Value)} (hX : RTN c w ps vs) (hk : opBuildSlice E K site t len ps) :
    ∃ v news, K v news ∧ (Fresh σ.mem news → ∃ V w', (Instr.buildSlice t len vs.toArray).run P w = .ok V w' ∧ Post w0 L n σ a news v V w') := by
  unfold opBuildSlice at hk
  split at hk
  case h_2 => exact hk.elim
  rename_i e sz by_ he
  split at hk
  case h_2 => exact hk.elim
  rename_i zs hz
  split at hk
  case isFalse => exact hk.elim
  rename_i hzl
  obtain ⟨hzs, hle⟩ := hzl
  split at hk
  case h_2 => exact hk.elim
  rename_i xs hx
  obtain ⟨inf, hu, hi, rfl, rfl, hne⟩ := elI_some (Tab.el_ok hE he)
  obtain ⟨i, z, hi', hzz, rfl, hall⟩ := zrI_some (Tab.zr_ok hE hz)
  rw [hi] at hi'; cases hi'
  have hzsz : z.cells.size = inf.size := by simpa using hzs
  refine ⟨_, _, hk, fun hf => ?_⟩
  have hs := hf _ (List.mem_singleton.2 rfl)
  have hflat : ∃ zero : Array Value, ((Array.range (len * inf.size)).map (zero[· % zero.size]!)).toList = (List.replicate len z.cells.toList).flatten ∧ (len * inf.size = 0 → zero = #[]) ∧ (len * inf.size ≠ 0 → zero = z.cells) := by
    by_cases h0 : len * inf.size = 0
    · refine ⟨#[], ?_, fun _ => rfl, fun h => absurd h0 h⟩
      have : len = 0 := by rcases Nat.mul_eq_zero.1 h0 with h | h; exact h; exact absurd h hne
      simp [this]
    · refine ⟨z.cells, ?_, fun h => absurd h h0, fun _ => rfl⟩
      have := range_map_flat z.cells (by omega) len
      rw [← hzsz]; exact this
  obtain ⟨zero, hC, hz0, hz1⟩ := hflat
  obtain ⟨D, hD, hR⟩ := fill_ok (place := fun i => some (i * inf.size, inf.size)) (C := (Array.range (len * inf.size)).map (zero[· % zero.size]!)) hX (by rw [hC]; exact RL.replicate_flat hall len) hx
  have hxl : xs.length = len * inf.size := by
    have : ∀ (ps : List (Nat × T)) (ys xs : List AV), fillA (fun i => some (i * inf.size, inf.size)) ps ys = some xs → xs.length = ys.length := by
      intro ps
      induction ps with
      | nil => intro ys xs h; simp [fillA] at h; rw [h]
      | cons p ps ih =>
        intro ys xs h
        obtain ⟨i, t⟩ := p
        simp only [fillA] at h
        split at h
        case h_2 => cases h
        rename_i o sz zs hp _
        split at h
        case isFalse => cases h
        rename_i hc
        have := ih _ _ h
        rw [this]
        simp
        omega
    rw [this _ _ _ hx]
    simp [hzs]
  replace hR := RL.map_bor hR
  have hbl : (xs.map AV.bor).length = len * inf.size := by simpa using hxl
  have hDl : D.size = len * inf.size := by have := hR.length; rw [hbl] at this; simpa using this.symm
  have hrun : (Instr.buildSlice t len vs.toArray).run P w = .ok (.slice (some ⟨w.heap.size, 0, none⟩) len len) (w.alloc (.cells D e)) := by
    unfold Instr.buildSlice
    simp only [Sem.run_bind, run_underlying hu, Result.andThen_ok, run_sizeOf hi]
    rw [if_neg (by omega)]
    by_cases h0 : len * inf.size = 0
    · rw [if_pos h0]
      rw [hz0 h0] at hD
      simp only [pure_bind, hD, Sem.run_bind, Go.newRow, run_newObj, Result.andThen_ok, Sem.run_pure, World.alloc_eq]
    · rw [if_neg h0]
      rw [hz1 h0] at hD
      have hzv : (zeroValue e).run P w = .ok z w := by simp [zeroValue, typeInfo, hi, hzz]
      simp only [pure_bind, hzv, hD, Sem.run_bind, Go.newRow, run_newObj, Result.andThen_ok, Sem.run_pure, World.alloc_eq]
  have hmx : len ≤ maxLen := by
    have : len ≤ len * inf.size := Nat.le_mul_of_pos_right _ (by omega)
    simp only [maxLen]; omega
  obtain ⟨c', F', hH, hat⟩ := h.newRow (w1 := w.alloc (.cells D e)) ((Below.refl _ _).alloc (Nat.le_refl _) _) hs (p := (xs.map AV.bor).all AV.isData) (sz := inf.size) (cap := len)
    (es := chunk inf.size (xs.map AV.bor) len) (b := w.heap.size) (Nat.le_refl _) (heap_alloc_new w _) (fun i _ => by simp) (by rw [chunk_length]; exact Nat.le_refl _) hmx hDl (fun e' he' => by
      obtain ⟨i, hi⟩ := List.getElem?_of_mem he'
      have hil : i < len := by have := (List.getElem?_eq_some_iff.1 hi).1; rwa [chunk_length] at this
      rw [chunk_get _ _ _ _ hil] at hi
      cases hi
      have h5 : (i + 1) * inf.size ≤ len * inf.size := Nat.mul_le_mul_right _ (by omega)
      rw [Nat.add_mul] at h5
      rw [List.length_take, List.length_drop, hbl]; omega) (fun i j x v hx' hv => by
      unfold elt at hx'
      cases hci : (chunk inf.size (xs.map AV.bor) len)[i]? with
      | none => simp [hci] at hx'
      | some e' =>
        have hil : i < len := by have := (List.getElem?_eq_some_iff.1 hci).1; rwa [chunk_length] at this
        rw [chunk_get _ _ _ _ hil] at hci
        cases hci
        rw [chunk_get _ _ _ _ hil] at hx'
        simp only [Option.bind_some, List.getElem?_take, List.getElem?_drop] at hx'
        split at hx'
        · exact ⟨hR.at hx' (by simpa using hv), fun hp => List.all_eq_true.1 hp _ (List.mem_of_getElem? hx'), fun hc => by
            obtain ⟨y, _, rfl⟩ := List.mem_map.1 (List.mem_of_getElem? hx')
            exact bor_cell hc⟩
        · cases hx')
  refine ⟨_, _, hrun, c', F', hH, ?_, rfl⟩
  have := R.loc (c := c') (w := w.alloc (.cells D e)) (off := 0) (len := len) (A := some ⟨w.heap.size, 0, none⟩) hat (by omega) (fun _ => by simp)
  simpa using this

/-- What an append takes its elements from. -/
def opSrc (m : Nat → Option Blk) (sz : Nat) (y : T) (p : Bool) (src : List (List AV)) : Prop :=
  match y with
  | .one (.row _ rz es) => rz = sz ∧ p = true ∧ src = es
  | .one (.nn rz es) => rz = sz ∧ p = true ∧ src = es
  | .one (.loc s off len) => match m s with
    | some (.row p' rz es) => rz = sz ∧ off + len ≤ es.length ∧ p = p' ∧ src = (es.drop off).take len
    | _ => False
  | .one (.lit (.slice none 0 0)) => p = true ∧ src = []
  | _ => False

theorem opSrc_ok (h : H w0 L n σ a w c F) {m : Nat → Option Blk} (hm : Sup σ m) {sz : Nat} {y : T} {Y : Value} {p : Bool} {src : List (List AV)} (hY : RT c w y Y) (hk : opSrc m sz y p src) :
    (∀ e ∈ src, e.length = sz) ∧ ∃ A cp, Y = .slice A src.length cp ∧ (0 < src.length → ∃ b o, A = some ⟨b, o, none⟩ ∧
      ∃ news : List Value, news.length = src.length * sz ∧ (∀ (j : Nat) (v : Value), news[j]? = some v → w.cell? ⟨b, o + j, none⟩ = some v) ∧
        ∀ (i j : Nat) (x : AV) (v : Value), elt src i j = some x → news[i * sz + j]? = some v → R c w x v ∧ v.oneCell' = true ∧ (p = true → x.isCell = true)) := by
  have flat : ∀ (es : List (List AV)) (b o : Nat) (p : Bool), (∀ e ∈ es, e.length = sz) → (∀ (i j : Nat) (x : AV), elt es i j = some x → ∃ v, w.cell? ⟨b, o + i * sz + j, none⟩ = some v ∧ v.oneCell' = true ∧ R c w x v ∧ (p = true → x.isCell = true)) →
      ∃ news : List Value, news.length = es.length * sz ∧ (∀ (j : Nat) (v : Value), news[j]? = some v → w.cell? ⟨b, o + j, none⟩ = some v) ∧
        ∀ (i j : Nat) (x : AV) (v : Value), elt es i j = some x → news[i * sz + j]? = some v → R c w x v ∧ v.oneCell' = true ∧ (p = true → x.isCell = true) := by
    intro es b o p hl hc
    have hcell : ∀ k, k < es.length * sz → ∃ v, w.cell? ⟨b, o + k, none⟩ = some v := fun k hk => by
      have hsz : 0 < sz := by rcases Nat.eq_zero_or_pos sz with e | e; simp [e] at hk; exact e
      have hi : k / sz < es.length := (Nat.div_lt_iff_lt_mul hsz).2 hk
      have hj : k % sz < (es[k / sz]).length := by rw [hl _ (List.getElem_mem hi)]; exact Nat.mod_lt _ hsz
      obtain ⟨v, hv, _⟩ := hc (k / sz) (k % sz) (es[k / sz][k % sz]) (by simp [elt, hi, hj])
      refine ⟨v, ?_⟩
      rw [← hv]; congr 2
      have := Nat.div_add_mod k sz
      rw [Nat.mul_comm] at this; omega
    refine ⟨(List.range (es.length * sz)).map fun k => (w.cell? ⟨b, o + k, none⟩).getD default, by simp, fun j v hv => ?_, fun i j x v hx hv => ?_⟩
    · have hj : j < es.length * sz := by have := (List.getElem?_eq_some_iff.1 hv).1; simpa using this
      obtain ⟨u, hu⟩ := hcell j hj
      simp [hj, hu] at hv
      rw [← hv]; exact hu
    · obtain ⟨hi, hj⟩ := elt_lt hl hx
      have hlt := fit_lt hi hj (Nat.le_refl es.length)
      obtain ⟨u, h1, h2, h3, h4⟩ := hc i j x hx
      rw [Nat.add_assoc] at h1
      simp [hlt, h1] at hv
      subst hv
      exact ⟨h3, h2, h4⟩
  have ofRow : ∀ (own : Bool) (es : List (List AV)) (V : Value), R c w (.row own sz es) V → (∀ e ∈ es, e.length = sz) ∧ ∃ A cp, V = .slice A es.length cp ∧ (0 < es.length → ∃ b o, A = some ⟨b, o, none⟩ ∧
      ∃ news : List Value, news.length = es.length * sz ∧ (∀ (j : Nat) (v : Value), news[j]? = some v → w.cell? ⟨b, o + j, none⟩ = some v) ∧
        ∀ (i j : Nat) (x : AV) (v : Value), elt es i j = some x → news[i * sz + j]? = some v → R c w x v ∧ v.oneCell' = true ∧ (true = true → x.isCell = true)) := by
    intro own es V hV
    cases hV with
    | @row _ _ _ A cap b o vals a1 a2 a3 a4 a0 a5 a6 a7 =>
      refine ⟨a4, A, cap, rfl, fun hl => ?_⟩
      obtain ⟨rfl, _⟩ := a3 hl
      exact ⟨b, o, rfl, flat _ b o true a4 fun i j x hx => ⟨_, a5 i j x hx, a6 i j x hx, a7 i j x hx, fun _ => a0 i j x hx⟩⟩
  unfold opSrc at hk
  split at hk
  · obtain ⟨rfl, rfl, rfl⟩ := hk
    exact ofRow _ _ _ hY.1
  · obtain ⟨rfl, rfl, rfl⟩ := hk
    obtain ⟨hY, _⟩ := hY
    cases hY with | nn hY => exact ofRow _ _ _ hY
  · rename_i s off len
    split at hk
    case h_2 => exact hk.elim
    rename_i p' rz es hs
    obtain ⟨rfl, hfit, rfl, rfl⟩ := hk
    replace hs : σ.mem s = some (.row p rz es) := by
      obtain ⟨hY, _⟩ := hY
      cases hY with
      | loc h1 => exact h.look hm h1 hs
      | locnil h1 => exact h.look hm h1 hs
    have hlen : ((es.drop off).take len).length = len := by rw [List.length_take, List.length_drop]; omega
    obtain ⟨hY, _⟩ := hY
    rcases h.mem s _ hs with ⟨hat, rfl, _⟩ | ⟨b, cap, hat, C, el, fz, G, a1, a2, a3, a4, a5, a6, a7, a8, a9, a10, a11, a12⟩
    · simp
      cases hY with
      | locnil => exact ⟨none, 0, rfl⟩
      | loc h1 => rw [hat] at h1; cases h1
    · refine ⟨fun e he => a6 e (List.mem_of_mem_drop (List.mem_of_mem_take he)), ?_⟩
      cases hY with
      | locnil h1 => rw [hat] at h1; cases h1
      | @loc _ _ _ b' cap' sz' A h1 hle hA =>
        rw [hat] at h1; cases h1
        rw [hlen]
        refine ⟨A, _, rfl, fun hl => ⟨b, off * rz, hA (by omega), ?_⟩⟩
        have := flat ((es.drop off).take len) b (off * rz) p (fun e he => a6 e (List.mem_of_mem_drop (List.mem_of_mem_take he))) fun i j x hx => ?_
        · rwa [hlen] at this
        · have hx' : elt es (off + i) j = some x := by
            unfold elt at hx ⊢
            rw [List.getElem?_take] at hx
            split at hx
            · rwa [List.getElem?_drop] at hx
            · simp at hx
          obtain ⟨hi, hj⟩ := elt_lt a6 hx'
          have hfit2 := fit_lt hi hj a3
          have hv : C[(off + i) * rz + j]? = some (C[(off + i) * rz + j]'(by omega)) := by simp
          refine ⟨_, by simp only [World.cell?, a1, Option.isSome_none, Bool.false_eq_true, if_false]; rw [← hv, Nat.add_mul], a7 _ _ x _ hx' hv, ?_, ?_⟩
          · rcases a8 _ _ x _ hx' hv with h1 | h1
            · refine h1.read fun q hq => ?_
              have hF : F s q := (a12 q).2 (.inr ⟨_, _, hq⟩)
              rw [h.inn s q hF]
              rintro (ht | ⟨_, _, ht⟩)
              · rw [hat] at ht; cases ht
              · rw [hat] at ht; cases ht; exact a9 _ _ hq
            · exact h1.2.2.1
          · intro hp
            exact ((a8 _ _ x _ hx' hv).resolve_right (fun h => by rw [hp] at h; cases h.1)).isCell
  · obtain ⟨rfl, rfl⟩ := hk
    obtain rfl := one_lit hY
    exact ⟨by simp, none, 0, rfl, fun h => by simp at h⟩
  · exact hk.elim


def byteE (b : UInt8) : List AV := [.lit (.int .u8 (b.toNat : Int))]

/-- []byte(s). -/
def opToBytes (E : Tab) (K : T → News → Prop) (site : Nat) (dst : TypeId) (x : T) : Prop :=
  match E.el dst, x with
  | some (e, sz, _), .one (.lit (.string s)) => match E.kd e with
    | some (.int .u8) => if sz = 1 then s.size ≤ maxLen ∧ K (.one (.loc site 0 s.size)) [(site, .row true 1 (s.data.toList.map byteE))] else False
    | _ => False
  | _, _ => False
/-- string(b). -/
def opToStr (E : Tab) (m : Nat → Option Blk) (K : T → News → Prop) (src : TypeId) (x : T) : Prop :=
  match E.el src with
  | some (e, sz, _) => match E.kd e with
    | some (.int .u8) => if sz = 1 then ∃ p es l, opSrc m 1 x p es ∧ es = List.map byteE l ∧ K (.one (.lit (.string ⟨l.toArray⟩))) [] else False
    | _ => False
  | none => False
def opConv2 (E : Tab) (m : Nat → Option Blk) (K : T → News → Prop) (site : Nat) (src dst : TypeId) (x : T) : Prop :=
  match E.kd dst, E.kd src with
  | some .sl, some .str => opToBytes E K site dst x
  | some .str, some .sl => opToStr E m K src x
  | _, _ => opConv E K src dst x

theorem bytesWorld_below (w : World) (e : TypeId) (s : ByteArray) : Below w.heap.size w (Lib.bytesWorld w e s) :=
  ⟨rfl, rfl, rfl, by rw [Lib.bytesWorld_size]; omega, fun k hk => Lib.bytesWorld_at_old w e s k hk⟩

theorem opConv2_ok {E : Tab} (hE : E.ok P) (h : H w0 L n σ a w c F) {m : Nat → Option Blk} (hm : Sup σ m) {site : Nat} {src dst : TypeId} {x : T} {X : Value} (hX : RT c w x X) (hk : opConv2 E m K site src dst x) :
    ∃ v news, K v news ∧ (Fresh σ.mem news → ∃ V w', (convert src dst X).run P w = .ok V w' ∧ Post w0 L n σ a news v V w') := by
  unfold opConv2 at hk
  split at hk
  · rename_i hd hs
    replace hs := Tab.str_ok hE hs
    unfold opToBytes at hk
    split at hk
    case h_2 => exact hk.elim
    rename_i e sz by_ s he
    split at hk
    case h_2 => exact hk.elim
    rename_i hke
    split at hk
    case isFalse => exact hk.elim
    rename_i hsz
    subst hsz
    obtain ⟨hmx, hk⟩ := hk
    obtain ⟨inf, hu, hi, hsz1, rfl, hne⟩ := elI_some (Tab.el_ok hE he)
    have hue := Tab.int_ok hE hke
    obtain rfl := one_lit hX
    refine ⟨_, _, hk, fun hf => ?_⟩
    have hfr := hf _ (List.mem_singleton.2 rfl)
    have hrun := Lib.run_convert_string_bytes (P := P) w src dst e s hs hu hue
    have hge := grownCap_ge w s.size 0 e
    have hle := grownCap_le_maxLen w s.size 0 e hmx
    have hsize : (Lib.bytesCells w e s).size = grownCap w s.size 0 e * 1 := by
      have : s.data.size = s.size := rfl
      simp [Lib.bytesCells]; omega
    obtain ⟨c', F', hH, hat⟩ := h.newRow (w1 := Lib.bytesWorld w e s) (bytesWorld_below w e s) hfr (p := true) (sz := 1) (cap := grownCap w s.size 0 e) (es := s.data.toList.map byteE) (b := w.heap.size) (Nat.le_refl _) (Lib.bytesWorld_at_new w e s)
      (fun i hi => by have : pad 1 = 0 := rfl; simp; omega) (by simpa using hge) hle hsize (fun e' he' => by obtain ⟨b, _, rfl⟩ := List.mem_map.1 he'; rfl) (fun i j x v hx hv => by
        unfold elt at hx
        rw [List.getElem?_map] at hx
        cases hb : s.data.toList[i]? with
        | none => simp [hb] at hx
        | some b =>
          simp only [hb, Option.map_some, Option.bind_some, byteE] at hx
          cases j with
          | succ j => simp at hx
          | zero =>
            simp at hx
            subst hx
            have hib := List.getElem?_eq_some_iff.1 hb
            have hi : i < s.data.size := by simpa using hib.1
            have : v = .int .u8 (b.toNat : Int) := by
              simp only [Lib.bytesCells, Nat.mul_one, Nat.add_zero] at hv
              rw [Array.getElem?_append_left (by simpa using hi)] at hv
              simp [hi] at hv
              obtain ⟨a, ha, rfl⟩ := hv
              have h2 := hib.2
              rw [Array.getElem?_eq_getElem hi] at ha
              simp at h2
              simp only [Option.some.injEq] at ha
              rw [← ha, h2]
            subst this
            exact ⟨⟨.lit _, rfl⟩, fun _ => rfl, fun _ => rfl⟩)
    refine ⟨_, _, hrun, c', F', hH, ?_, rfl⟩
    have := R.loc (c := c') (w := Lib.bytesWorld w e s) (off := 0) (len := s.size) (A := some ⟨w.heap.size, 0, none⟩) hat (by omega) (fun _ => by simp)
    simpa using this
  · rename_i hd hs
    replace hd := Tab.str_ok hE hd
    unfold opToStr at hk
    split at hk
    case h_2 => exact hk.elim
    rename_i e sz by_ he
    split at hk
    case h_2 => exact hk.elim
    rename_i hke
    split at hk
    case isFalse => exact hk.elim
    rename_i hsz
    subst hsz
    obtain ⟨p, es, l, hsrc, rfl, hk⟩ := hk
    obtain ⟨inf, hu, hi, hsz1, rfl, hne⟩ := elI_some (Tab.el_ok hE he)
    have hue := Tab.int_ok hE hke
    obtain ⟨_, A, cp, rfl, hA⟩ := opSrc_ok h hm hX hsrc
    refine ⟨_, _, hk, fun _ => ⟨_, w, ?_, c, F, h, RT_lit _ rfl⟩⟩
    by_cases h0 : l = []
    · subst h0
      cases A with
      | none =>
        rw [run_convert_bytes_string w src dst e _ _ _ hu hue hd]
        simp [Conv.bytesToString]
        rfl
      | some A =>
        have := run_convert_bytes_back (P := P) w src dst e A cp [] hu hue hd (fun j hj => by simp at hj)
        simpa using this
    · have hpos : 0 < (List.map byteE l).length := by simp; exact List.length_pos_iff.2 h0
      obtain ⟨b, o, rfl, news, hnl, hnc, hnr⟩ := hA hpos
      have := run_convert_bytes_back (P := P) w src dst e ⟨b, o, none⟩ cp l hu hue hd (fun j hj => by
        rw [Addr.add_lit]
        have hjn : j < news.length := by rw [hnl]; simpa using hj
        have h1 := hnr j 0 (.lit (.int .u8 (l[j].toNat : Int))) news[j] (by simp [elt, hj, byteE]) (by simp [hjn])
        have h2 := one_lit ⟨h1.1, h1.2.1⟩
        exact hnc j _ (by rw [List.getElem?_eq_getElem hjn, h2]))
      simpa using this
  · obtain ⟨v, V, h1, h2, h3⟩ := opConv_ok hE hX hk
    exact ⟨v, [], h1, fun _ => ⟨V, w, h2, c, F, h, h3⟩⟩
end
end Go.Proofs.Ytlijeincckbdaaa
