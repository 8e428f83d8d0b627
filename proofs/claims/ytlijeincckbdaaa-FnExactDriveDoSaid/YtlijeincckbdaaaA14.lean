/- The abstract machine: a region in whatever order. -/
import Derived.Test.YtlijeincckbdaaaA13
namespace Go.Proofs.Ytlijeincckbdaaa
open Go.RowKit
set_option linter.unusedSimpArgs false
set_option linter.unusedVariables false

section
variable {P : Program} {w0 w : World} {L : Nat → Prop} {n : Nat} {σ : AS} {a : Act} {c : Ctx} {F : Nat → Nat → Prop} {ops : Array Oper} {Q : AS → Prop} {E : Tab}

theorem adds_tm (l : News) : ∀ σ : AS, (σ.adds l).tm = σ.tm := by
  induction l with
  | nil => intro σ; rfl
  | cons x l ih => intro σ; obtain ⟨s, k⟩ := x; simp only [AS.adds]; rw [ih]; rfl
theorem put_mem (σ : AS) (d : Option Nat) (t : T) : (σ.put d t).mem = σ.mem := by cases d <;> rfl
theorem adds_mem_old {l : News} {s : Nat} {k : Blk} (h : ∀ x ∈ l, σ.mem x.1 = none) (hs : σ.mem s = some k) : (σ.adds l).mem s = some k := by
  rw [adds_mem_ne fun x hx e => by have := h x hx; rw [e, hs] at this; cases this]
  exact hs
theorem adds_mem_new : ∀ {l : News} {σ : AS}, (l.map (·.1)).Nodup → ∀ x ∈ l, (σ.adds l).mem x.1 = some x.2
  | [], _, _, x, hx => by cases hx
  | (s, k) :: l, σ, hn, x, hx => by
    simp only [List.map_cons, List.nodup_cons, List.mem_map, not_exists, not_and] at hn
    cases hx with
    | head =>
      simp only [AS.adds]
      rw [adds_mem_ne fun y hy e => hn.1 y hy e]
      simp [AS.add]
    | tail _ hx => exact adds_mem_new hn.2 x hx

theorem ope_mono {site : Nat} {op : Op} {K K' : AS → T → Prop} (h : ope P E site op σ K) (hK : ∀ σ' v, K σ' v → K' σ' v) : ope P E site op σ K' := by
  unfold ope at h ⊢
  split at h
  · unfold opStore at h ⊢
    split at h
    · split at h
      case isFalse => exact h.elim
      rename_i hc
      rw [if_pos hc]
      split at h
      · split at h
        · split at h
          case isFalse => exact h.elim
          rename_i hc
          rw [if_pos hc]
          exact hK _ _ h
        · exact h.elim
      · split at h
        · obtain ⟨e, h1, h3⟩ := h
          refine ⟨e, h1, ?_⟩
          split at h3
          case isFalse => exact h3.elim
          rename_i hc
          rw [if_pos hc]
          obtain ⟨es', h4, h5⟩ := h3
          exact ⟨es', h4, hK _ _ h5⟩
        · exact h.elim
      · exact h.elim
    · exact h.elim
  · split at h
    · split at h
      case isFalse => exact h.elim
      rename_i htt
      subst htt
      rw [if_pos rfl]
      unfold opAppend at h ⊢
      split at h
      · split at h
        · split at h
          case isFalse => exact h.elim
          rename_i hc
          rw [if_pos hc]
          obtain ⟨p2, src, h0, src', h⟩ := h
          refine ⟨p2, src, h0, src', ?_⟩
          split at h
          · exact ⟨h.1, h.2.1, h.2.2.1, h.2.2.2.1, hK _ _ h.2.2.2.2⟩
          · split at h
            · split at h
              case isFalse => exact h.elim
              rename_i hrz
              subst hrz
              rw [if_pos rfl]
              obtain ⟨h1, h2, h3, h4, h5, h6, h7⟩ := h
              exact ⟨h1, h2, h3, h4, h5, h6, hK _ _ h7⟩
            · exact h.elim
          · exact h.elim
        · exact h.elim
      · exact h.elim
    · split at h
      · obtain ⟨σ', t, h1, h2⟩ := h
        exact ⟨σ', t, h1, hK _ _ h2⟩
      · obtain ⟨tl, ml, h1, us, bs, bs', r, ss, h2, h3, h4, h5, h6, h7, h8, h9⟩ := h
        exact ⟨tl, ml, h1, us, bs, bs', r, ss, h2, h3, h4, h5, h6, h7, h8, hK _ _ h9⟩
    · exact h.elim
  · exact h.elim

theorem adds_par {s : Nat} {k : Blk} (hk : k.isPar = true) : ∀ {l : News} {σ : AS}, (∀ x ∈ l, x.2.isPar = false) → (σ.adds l).mem s = some k → σ.mem s = some k
  | [], _, _, h => h
  | (s', k') :: l, σ, hl, h => by
    have h1 := adds_par hk (l := l) (fun x hx => hl x (by simp [hx])) h
    simp only [AS.add] at h1
    split at h1
    · cases h1
      have := hl _ List.mem_cons_self
      rw [hk] at this; cases this
    · exact h1
theorem tr_of_vc : ∀ (l : List Oper) (is : List Nat) (σ : AS), is.map (fun i => ops[i]?) = l.map some → vcOps P E ops l σ Q → ∃ m, Le σ.mem m ∧ Tr P E ops Q is σ m
  | [], [], σ, _, h => ⟨σ.mem, Le.refl _, h⟩
  | o :: l, k :: is, σ, hl, h => by
    simp only [List.map_cons, List.cons.injEq] at hl
    obtain ⟨h0, hl'⟩ := hl
    have quiet : wants ops σ o → vcOp P E o σ (fun σ' => vcOps P E ops l σ' Q) → isEff E o.op = false → ∃ m, Le σ.mem m ∧ Tr P E ops Q (k :: is) σ m := fun hw hv he => by
      unfold vcOp at hv
      rw [he] at hv
      simp only at hv
      obtain ⟨v, news, h3, h4⟩ := opn'_val hv
      obtain ⟨h1, h2, h3, hnp⟩ := vcNews_ok h3
      obtain ⟨m, hm, ht⟩ := tr_of_vc l is _ hl' h3
      rw [put_mem] at hm
      refine ⟨m, ⟨fun s k hs => hm.1 s k (adds_mem_old h1 hs), fun s k hk hs => adds_par hk hnp (hm.2 s k hk hs)⟩, ?_⟩
      simp only [Tr]
      refine ⟨o, h0, ?_⟩
      rw [if_neg (by simp [he])]
      exact ⟨some (v, news), ⟨hw, opn'_up (fun s k hs => hm.1 s k (adds_mem_old h1 hs)) h4, h1, fun x hx => hm.1 _ _ (adds_mem_new h2 x hx)⟩, ht⟩
    have skip : skips ops σ o → vcOps P E ops l (σ.put o.dst (.tup [])) Q → isEff E o.op = false → ∃ m, Le σ.mem m ∧ Tr P E ops Q (k :: is) σ m := fun hs hv he => by
      obtain ⟨m, hm, ht⟩ := tr_of_vc l is _ hl' hv
      rw [put_mem] at hm
      refine ⟨m, hm, ?_⟩
      simp only [Tr]
      refine ⟨o, h0, ?_⟩
      rw [if_neg (by simp [he])]
      exact ⟨none, hs, ht⟩
    rw [vcOps_cons] at h
    cases hg : o.guard with
    | none =>
      rw [hg] at h
      cases he : isEff E o.op with
      | false => exact quiet (by simp [wants, hg]) h he
      | true =>
        unfold vcOp at h
        rw [he] at h
        simp only at h
        refine ⟨σ.mem, Le.refl _, ?_⟩
        simp only [Tr]
        refine ⟨o, h0, ?_⟩
        rw [if_pos he]
        exact ⟨by first | exact hg | trivial, by first | rfl | trivial, ope_mono h fun σ' v hv => tr_of_vc l is _ hl' hv⟩
    | some jw =>
      obtain ⟨j, want⟩ := jw
      rw [hg] at h
      simp only at h
      split at h
      · exact h.elim
      rename_i he
      cases hd : gdst ops j with
      | none => rw [hd] at h; exact h.elim
      | some t =>
        rw [hd] at h
        simp only at h
        split at h
        · rename_i b hb
          have same : ∀ v, σ.tm t = v → σ.put (some t) v = σ := fun v hv => by
            have : (fun k => if k = t then v else σ.tm k) = σ.tm := by
              funext k
              split
              · rename_i e; rw [e, hv]
              · rfl
            simp only [AS.put, this]
          cases b with
          | true =>
            rw [same _ hb] at h
            cases want with
            | true => exact quiet (by simp only [wants, hg]; exact ⟨t, hd, hb⟩) h he
            | false => exact skip (by simp only [skips, hg]; exact ⟨t, hd, .inl hb⟩) h he
          | false =>
            rw [same _ hb] at h
            cases want with
            | true => exact skip (by simp only [skips, hg]; exact ⟨t, hd, .inl hb⟩) h he
            | false => exact quiet (by simp only [wants, hg]; exact ⟨t, hd, hb⟩) h he
        · rename_i hb
          exact skip (by simp only [skips, hg]; exact ⟨t, hd, .inr hb⟩) h he
        · exact h.elim

theorem ope_ok (hE : E.ok P) (h : H w0 L n σ a w c F) {o : Oper} {K : AS → T → Prop} (hk : ope P E (siteOf o) o.op σ K) :
    ∃ σ1 v, K σ1 v ∧ ∀ (K' : Act → World → Prop) (QQ : Exit → Act → World → Prop), (∀ V w' c' F', H w0 L n σ1 a w' c' F' → RT c' w' v V → K' (a.put o.dst V) w') → o.wp P a w K' QQ := by
  unfold ope at hk
  split at hk
  · rename_i t x y ho
    obtain ⟨σ1, w', h1, h2, c', F', h3⟩ := opStore_ok hE h (h.get x) (h.get y) hk
    refine ⟨σ1, .tup [], h1, fun K' QQ hK => ?_⟩
    unfold Oper.wp execOp
    simp only [ho, Sem.run_bind, h2, Result.andThen_ok, Sem.run_pure]
    exact hK undef w' c' F' h3 trivial
  · rename_i cl ho
    split at hk
    case h_3 => exact hk.elim
    case h_2 =>
      rename_i f hc
      have hk2 : ∃ σ1 v, K σ1 v ∧ Callable P f ∧ Calls P f (cl.args.toList.map a.eval).toArray w fun e w' => ∃ V c' F', e = .returned V ∧ H w0 L n σ1 a w' c' F' ∧ RT c' w' v V := by
        split at hk
        · exact opOwn_ok ⟨c, F, h⟩ hk
        · exact opMark_ok ⟨c, F, h⟩ hk
      obtain ⟨σ1, v, h1, h2, h3⟩ := hk2
      refine ⟨σ1, v, h1, fun K' QQ hK => ?_⟩
      unfold Oper.wp
      rw [run_call h2 a (.func f) cl o ho hc rfl rfl, Oper.upon_enter]
      have e : (List.map a.eval cl.args.toList).toArray = cl.args.map a.eval := by apply Array.ext'; simp
      rw [e] at h3
      rw [Array.append_empty]
      refine Calls.mono h3 ?_
      rintro e w' ⟨V, c', F', rfl, h4, h5⟩
      exact hK V w' c' F' h4 h5
    rename_i x y t t' hc hx ht
    split at hk
    case isFalse => exact hk.elim
    rename_i htt
    subst htt
    have hx' : cl.args = #[x, y] := by rw [← Array.toArray_toList (xs := cl.args), hx]
    have ht' : cl.argTypes = #[t, t] := by rw [← Array.toArray_toList (xs := cl.argTypes), ht]
    obtain ⟨σ1, v, h1, V, w', h2, c', F', h3, h4⟩ := opAppend_ok hE (ty := o.type) h (h.get x) (h.get y) hk
    refine ⟨σ1, v, h1, fun K' QQ hK => ?_⟩
    unfold Oper.wp execOp
    simp only [ho, resolve, hc, invoke, builtin, Sem.run_bind, Sem.run_pure, Result.andThen_ok, hx', ht', List.map_toArray, List.map_cons, List.map_nil, h2]
    exact hK V w' c' F' h3 h4
  · exact hk.elim

/-- Where the tape is drawn from nothing turns. -/
theorem H.drawn (h : H w0 L n σ a w c F) : H w0 L n σ a { w with drawn := w.drawn + 1 } c F :=
  h.world (w' := w.drew) ((Below.refl _ _).drew)

/-- One quiet operation of a region. -/
theorem step_ok (hE : E.ok P) (h : H w0 L n σ a w c F) {m : Nat → Option Blk} (hm : Le σ.mem m) {i : Nat} {o : Oper} (ho : ops[i]? = some o) (hn : ∀ k, o.dst = some k → k < n) {d : Dec} (hd : VOk P E ops o d σ m)
    {K : Act → World → Prop} {QQ : Exit → Act → World → Prop} (hK : ∀ a' w', Holds w0 L n (app o d σ) a' w' → K a' w') : wpOp P ops QQ i K a w := by
  unfold wpOp
  simp only [ho]
  cases d with
  | none =>
    have hs : skips ops σ o := hd
    rw [if_neg (by simp [skips_ok h hs])]
    exact hK _ _ ⟨c, F, h.put hn trivial⟩
  | some d =>
    obtain ⟨v, news⟩ := d
    obtain ⟨h1, h2, h3, h4⟩ := hd
    rw [if_pos (wants_ok h h1)]
    have hsup : Sup σ m := ⟨fun s k hs => by
      cases hq : σ.mem s with
      | none => exact .inl rfl
      | some k' => have := hm.1 s k' hq; rw [hs] at this; cases this; exact .inr rfl, hm.2⟩
    obtain ⟨v', news', ⟨rfl, rfl⟩, h5⟩ := opn_ok hE h hsup h2
    refine .inl (h5 h3 K QQ fun V w' ⟨c', F', h6, h7⟩ => hK _ _ ⟨c', F', ?_⟩)
    exact h6.put hn h7

theorem app_mem_le {m : Nat → Option Blk} (hm : Le σ.mem m) {o : Oper} {d : Dec} (hd : VOk P E ops o d σ m) : Le (app o d σ).mem m := by
  cases d with
  | none => rw [show (app o none σ).mem = σ.mem from put_mem _ _ _]; exact hm
  | some d =>
    obtain ⟨v, news⟩ := d
    obtain ⟨_, _, h3, h4⟩ := hd
    rw [show (app o (some (v, news)) σ).mem = (σ.adds news).mem from put_mem _ _ _]
    have key : ∀ (l : News) (σ : AS), (∀ s k, σ.mem s = some k → m s = some k) → (∀ x ∈ l, m x.1 = some x.2) → ∀ s k, (σ.adds l).mem s = some k → m s = some k := by
      intro l
      induction l with
      | nil => intro σ h _; exact h
      | cons x l ih =>
        intro σ h hx
        obtain ⟨s', k'⟩ := x
        refine ih _ (fun s k hs => ?_) (fun y hy => hx y (by simp [hy]))
        simp only [AS.add] at hs
        split at hs
        · rename_i e; have := hx (s', k') (by simp); rw [e, ← hs]; exact this
        · exact h s k hs
    exact ⟨key news σ hm.1 h4, fun s k hk hs => adds_mem_old h3 (hm.2 s k hk hs)⟩

/-- A region that runs in the order of its text. -/
theorem region_ok (hE : E.ok P) {QQ : Exit → Act → World → Prop} (hQ : ∀ σ' a' w', Holds w0 L n σ' a' w' → Q σ' → QQ .normal a' w') (hn : ∀ (i : Nat) (o : Oper) (k : Nat), ops[i]? = some o → o.dst = some k → k < n) :
    ∀ (l : List Nat) {σ : AS} {a : Act} {w : World} {m : Nat → Option Blk}, Holds w0 L n σ a w → Le σ.mem m → Tr P E ops Q l σ m → wpOps P ops QQ l a w
  | [], σ, a, w, m, h, _, ht => hQ σ a w h ht
  | i :: l, σ, a, w, m, ⟨c, F, h⟩, hm, ht => by
    rw [wpOps_cons]
    obtain ⟨o, ho, ht⟩ := ht
    split at ht
    · obtain ⟨hg, rfl, ht⟩ := ht
      obtain ⟨σ1, v, ⟨m', hm', h1⟩, h2⟩ := ope_ok hE h ht
      unfold wpOp
      simp only [ho]
      rw [if_pos (by simp [Region.wanted, hg])]
      exact .inl (h2 _ _ fun V w' c' F' h3 h4 => region_ok hE hQ hn l ⟨c', F', h3.put (hn i o · ho) h4⟩ hm' h1)
    · obtain ⟨d, hd, ht⟩ := ht
      exact step_ok hE h hm ho (hn i o · ho) hd fun a' w' h' => region_ok hE hQ hn l h' (app_mem_le hm hd) ht

end
end Go.Proofs.Ytlijeincckbdaaa
