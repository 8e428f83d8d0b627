/- The abstract machine: code, and functions. -/
import Derived.Test.YtlijeincckbdaaaA15
namespace Go.Proofs.Ytlijeincckbdaaa
open Go.RowKit
set_option linter.unusedSimpArgs false
set_option linter.unusedVariables false

/-- What is to be shown of a piece of code: Kn: where it ends; Ke: where it leaves a block; Kr: where it returns. -/
def vcCode (P : Program) (E : Tab) (x : Code) : (AS → Prop) → (Nat → AS → Prop) → (AS → Prop) → AS → Prop :=
  Code.rec (motive := fun _ => (AS → Prop) → (Nat → AS → Prop) → (AS → Prop) → AS → Prop)
    (fun Kn _ _ σ => Kn σ)
    (fun _ ops _ Kn _ _ σ => vcOps P E ops ops.toList σ Kn)
    (fun _ _ ix iy Kn Ke Kr σ => ix (fun σ => iy Kn Ke Kr σ) Ke Kr σ)
    (fun c _ _ ix iy Kn Ke Kr σ => match σ.get c with
      | .one (.lit (.bool b)) => match b with
        | true => ix Kn Ke Kr σ
        | false => iy Kn Ke Kr σ
      | _ => False)
    (fun id _ ix Kn Ke Kr σ => ix Kn (fun id' σ => if id' = id then Kn σ else Ke id' σ) Kr σ)
    (fun _ ix _ Ke Kr σ => ∃ I : AS → Nat → Prop, (∃ σ' k, Weak σ σ' ∧ I σ' k) ∧ ∀ σ k, I σ k → ∃ σ1, Weak σ σ1 ∧ ix (fun σ' => ∃ σ'' k', Weak σ' σ'' ∧ k' < k ∧ I σ'' k') Ke Kr σ1)
    (fun _ _ _ _ _ _ _ _ _ _ => False)
    (fun id _ Ke _ σ => Ke id σ)
    (fun _ _ _ _ _ _ => False)
    (fun _ _ _ _ _ => False)
    (fun _ _ _ _ _ => False)
    (fun _ _ Kr σ => Kr σ)
    (fun _ _ _ _ _ => False) x

/-- What can be seen of the code alone. -/
def okCode (E : Tab) (n : Nat) : Code → Bool
  | .region _ ops draw => (ops.toList.all fun o => match o.dst with
    | some d => d < n
    | none => true) && (!draw || regOk E ops)
  | .seq x y => okCode E n x && okCode E n y
  | .cond _ x y => okCode E n x && okCode E n y
  | .block _ x => okCode E n x
  | .loop x => okCode E n x
  | _ => true

section
variable {P : Program} {w0 w : World} {L : Nat → Prop} {n : Nat} {σ : AS} {a : Act} {c : Ctx} {F : Nat → Nat → Prop}

theorem vc_ok {E : Tab} (hE : E.ok P) (hmix : P.follows .mixedOrders = true) : ∀ (x : Code) {Kn Kr : AS → Prop} {Ke : Nat → AS → Prop} {QQ : Exit → Act → World → Prop} {σ : AS} {a : Act} {w : World},
    okCode E n x = true → (∀ σ' a' w', Holds w0 L n σ' a' w' → Kn σ' → QQ .normal a' w') → (∀ id σ' a' w', Holds w0 L n σ' a' w' → Ke id σ' → QQ (.exit id) a' w') → (∀ σ' a' w', Holds w0 L n σ' a' w' → Kr σ' → QQ .ret a' w') →
    vcCode P E x Kn Ke Kr σ → Holds w0 L n σ a w → x.wp P QQ a w
  | .skip, Kn, Kr, Ke, QQ, σ, a, w, _, hn, _, _, h, hH => wp_skip (hn _ _ _ hH h)
  | .region id ops draw, Kn, Kr, Ke, QQ, σ, a, w, hok, hn, _, _, h, hH => by
    simp only [okCode, Bool.and_eq_true, List.all_eq_true] at hok
    obtain ⟨hd, hdr⟩ := hok
    have hdst : ∀ (i : Nat) (o : Oper) (k : Nat), ops[i]? = some o → o.dst = some k → k < n := fun i o k ho hk => by
      have := hd o (by simpa using Array.mem_of_getElem? ho)
      rw [hk] at this
      simpa using this
    obtain ⟨m, hm, ht⟩ := tr_of_vc (E := E) (ops := ops) (Q := Kn) ops.toList 0 σ (fun j => by simp) h
    rw [Array.length_toList] at ht
    cases draw with
    | false =>
      refine wp_region ?_
      rw [List.range_eq_range']
      exact region_ok hE hn hdst _ hH hm ht
    | true =>
      have hreg : regOk E ops = true := by simpa using hdr
      refine wp_region_any hmix ?_
      have hleft : left ops (Array.replicate ops.size false) = List.range' 0 ops.size := by
        unfold left
        rw [List.range_eq_range']
        refine List.filter_eq_self.2 fun i hi => ?_
        have := (List.mem_range'_1.1 hi).2
        simp at this
        simp [this]
      obtain ⟨c, F, hH⟩ := hH
      refine drawn_ok hE hreg hn hdst ops.size (by simp) (by rw [hleft]; simp) (fun i o e hi ho _ _ => ?_) ⟨c, F, hH.drawn⟩ hm (by rw [hleft]; exact ht)
      have hlt := (Array.getElem?_eq_some_iff.1 ho).1
      simp [hlt] at hi
  | .seq x y, Kn, Kr, Ke, QQ, σ, a, w, hok, hn, he, hr, h, hH => by
    simp only [okCode, Bool.and_eq_true] at hok
    refine wp_seq (vc_ok hE hmix x (QQ := Exit.then (y.wp P QQ) QQ) hok.1 (fun σ' a' w' h1 h2 => ?_) he hr h hH)
    exact vc_ok hE hmix y hok.2 hn he hr h2 h1
  | .cond q x y, Kn, Kr, Ke, QQ, σ, a, w, hok, hn, he, hr, h, hH => by
    simp only [okCode, Bool.and_eq_true] at hok
    replace h : (match σ.get q with
      | .one (.lit (.bool b)) => match b with
        | true => vcCode P E x Kn Ke Kr σ
        | false => vcCode P E y Kn Ke Kr σ
      | _ => False) := h
    split at h
    case h_2 => exact h.elim
    rename_i b hb
    obtain ⟨c, F, hH'⟩ := hH
    have hg := hH'.get q
    rw [hb] at hg
    have hv := one_lit hg
    refine wp_cond_split hv (fun e => ?_) (fun e => ?_)
    · subst e; exact vc_ok hE hmix x hok.1 hn he hr h ⟨c, F, hH'⟩
    · subst e; exact vc_ok hE hmix y hok.2 hn he hr h ⟨c, F, hH'⟩
  | .block id x, Kn, Kr, Ke, QQ, σ, a, w, hok, hn, he, hr, h, hH => by
    refine wp_block (vc_ok hE hmix x (QQ := Exit.inBlock id QQ) (by simpa [okCode] using hok) hn (fun id' σ' a' w' h1 h2 => ?_) hr h hH)
    simp only [Exit.inBlock]
    by_cases e : id' = id
    · rw [if_pos e] at h2 ⊢; exact hn _ _ _ h1 h2
    · rw [if_neg e] at h2 ⊢; exact he _ _ _ _ h1 h2
  | .loop x, Kn, Kr, Ke, QQ, σ, a, w, hok, hn, he, hr, h, hH => by
    obtain ⟨I, ⟨σ0, k0, hw0, hI0⟩, hround⟩ := h
    intro b k' cs
    have key : ∀ (k : Nat) (σ : AS) (a : Act) (w : World), I σ k → Holds w0 L n σ a w → ∃ e a' w', QQ e a' w' ∧ Arrives P (lone (b.at a (.code x :: .inLoop x :: k')) cs w) b k' cs e a' w' := by
      intro k
      induction k using Nat.strongRecOn with
      | _ k ih =>
        intro σ a w hI hH
        obtain ⟨σ1, hw1, hr1⟩ := hround σ k hI
        have h1 := vc_ok hE hmix x (Kn := fun σ' => ∃ σ'' k', Weak σ' σ'' ∧ k' < k ∧ I σ'' k') (QQ := Exit.then (fun a' w' => ∃ σ'' k', k' < k ∧ I σ'' k' ∧ Holds w0 L n σ'' a' w') QQ) (by simpa [okCode] using hok) (fun σ' a' w' h1 ⟨σ'', k', h2, h3, h4⟩ => ⟨σ'', k', h3, h4, h2 _ _ _ _ _ h1⟩) he hr hr1 (hw1 _ _ _ _ _ hH)
        obtain ⟨e, a₁, w₁, hq, harr⟩ := h1 b (.inLoop x :: k') cs
        cases e with
        | normal =>
          obtain ⟨σ'', k'', h3, h4, h5⟩ := hq
          obtain ⟨e₂, a₂, w₂, hq₂, harr₂⟩ := ih k'' h3 σ'' a₁ w₁ h4 h5
          exact ⟨e₂, a₂, w₂, hq₂, .of_steps (Steps.trans harr (.one step_inLoop)) harr₂⟩
        | exit id => exact ⟨_, a₁, w₁, hq, .pass (x := .inLoop x) rfl (fun _ _ => .inl (by simp)) harr⟩
        | goto l => exact ⟨_, a₁, w₁, hq, .pass (x := .inLoop x) rfl (fun _ _ => .inl (by simp)) harr⟩
        | ret => exact ⟨_, a₁, w₁, hq, .pass (x := .inLoop x) rfl (fun _ _ => .inl (by simp)) harr⟩
        | panic ch => exact ⟨_, a₁, w₁, hq, .pass (x := .inLoop x) rfl (fun _ _ => .inl (by simp)) harr⟩
        | outgrown => exact ⟨_, a₁, w₁, hq, .pass (x := .inLoop x) rfl (fun _ _ => .inl (by simp)) harr⟩
    obtain ⟨e, a', w', hq, harr⟩ := key k0 σ0 a w hI0 (hw0 _ _ _ _ _ hH)
    exact ⟨e, a', w', hq, .of_steps (.one step_loop) harr⟩
  | .exit id, Kn, Kr, Ke, QQ, σ, a, w, _, _, he, _, h, hH => wp_exit (he _ _ _ _ hH h)
  | .ret, Kn, Kr, Ke, QQ, σ, a, w, _, _, _, hr, h, hH => wp_ret (hr _ _ _ hH h)
  | .rangeFunc .., Kn, Kr, Ke, QQ, σ, a, w, _, _, _, _, h, _ => h.elim
  | .scope _, Kn, Kr, Ke, QQ, σ, a, w, _, _, _, _, h, _ => h.elim
  | .label _, Kn, Kr, Ke, QQ, σ, a, w, _, _, _, _, h, _ => h.elim
  | .goto _, Kn, Kr, Ke, QQ, σ, a, w, _, _, _, _, h, _ => h.elim
  | .refuse _, Kn, Kr, Ke, QQ, σ, a, w, _, _, _, _, h, _ => h.elim

/-- A result's cells. -/
def resV (E : Tab) (σ : AS) : ResultVar → Option (Bool × List AV)
  | .tmp t => match σ.tm t with
    | .one x => some (false, [x])
    | .agg xs => some (true, xs)
    | _ => none
  | .cell t ty => match E.ty ty, σ.tm t with
    | some (sz, g), .one (.ptr s 0) => match σ.mem s with
      | some (.var xs) => if xs.length = sz then some (g, xs) else none
      | _ => none
    | _, _ => none
def resVs (E : Tab) (σ : AS) : List ResultVar → Option (List (Bool × List AV))
  | [] => some []
  | r :: l => match resV E σ r, resVs E σ l with
    | some x, some xs => some (x :: xs)
    | _, _ => none

/-- A nil slice is a row of no elements. -/
def nilA : AV → AV → Prop
  | .lit (.slice none 0 0), y => y = .lit (.slice none 0 0) ∨ ∃ k, y = .row true k []
  | x, y => y = x
def nilL : List AV → List AV → Prop
  | [], [] => True
  | x :: xs, y :: ys => nilA x y ∧ nilL xs ys
  | _, _ => False
def nilR : List (List AV) → List (List AV) → Prop
  | [], [] => True
  | x :: xs, y :: ys => nilL x y ∧ nilR xs ys
  | _, _ => False
theorem nilA_refl (x : AV) : nilA x x := by
  unfold nilA
  split
  · exact .inl rfl
  · rfl
theorem nilL_refl : ∀ xs : List AV, nilL xs xs
  | [] => trivial
  | x :: xs => ⟨nilA_refl x, nilL_refl xs⟩
theorem nilR_refl : ∀ xs : List (List AV), nilR xs xs
  | [] => trivial
  | x :: xs => ⟨nilL_refl x, nilR_refl xs⟩
theorem nilL_at : ∀ {xs ys : List AV}, nilL xs ys → xs.length = ys.length ∧ ∀ (j : Nat) (y : AV), ys[j]? = some y → ∃ x, xs[j]? = some x ∧ nilA x y
  | [], [], _ => ⟨rfl, fun j y h => by simp at h⟩
  | x :: xs, y :: ys, h => by
    obtain ⟨h1, h2⟩ := nilL_at h.2
    refine ⟨by simp [h1], fun j z hz => ?_⟩
    cases j with
    | zero => simp at hz; subst hz; exact ⟨x, rfl, h.1⟩
    | succ j => obtain ⟨u, hu, hn⟩ := h2 j z (by simpa using hz); exact ⟨u, by simpa using hu, hn⟩
theorem nilR_at : ∀ {xs ys : List (List AV)}, nilR xs ys → xs.length = ys.length ∧ (∀ (i : Nat) (e : List AV), ys[i]? = some e → ∃ d, xs[i]? = some d ∧ nilL d e) ∧ ∀ (i : Nat) (d : List AV), xs[i]? = some d → ∃ e, ys[i]? = some e ∧ nilL d e
  | [], [], _ => ⟨rfl, fun i e h => by simp at h, fun i e h => by simp at h⟩
  | x :: xs, y :: ys, h => by
    obtain ⟨h1, h2, h3⟩ := nilR_at h.2
    refine ⟨by simp [h1], fun i e he => ?_, fun i e he => ?_⟩
    · cases i with
      | zero => simp at he; subst he; exact ⟨x, rfl, h.1⟩
      | succ i => obtain ⟨u, hu, hn⟩ := h2 i e (by simpa using he); exact ⟨u, by simpa using hu, hn⟩
    · cases i with
      | zero => simp at he; subst he; exact ⟨y, rfl, h.1⟩
      | succ i => obtain ⟨u, hu, hn⟩ := h3 i e (by simpa using he); exact ⟨u, by simpa using hu, hn⟩
theorem nilR_elt {es es' : List (List AV)} (h : nilR es es') {i j : Nat} {y : AV} (hy : elt es' i j = some y) : ∃ x, elt es i j = some x ∧ nilA x y := by
  unfold elt at hy ⊢
  cases he : es'[i]? with
  | none => simp [he] at hy
  | some e =>
    obtain ⟨d, hd, hl⟩ := (nilR_at h).2.1 i e he
    simp only [he, Option.bind_some] at hy
    obtain ⟨x, hx, hn⟩ := (nilL_at hl).2 j y hy
    exact ⟨x, by rw [hd]; exact hx, hn⟩
theorem RO.nil1 {x y : AV} {v : Value} {G : Nat → Prop} (h : RO c w G x v) (hn : nilA x y) : RO c w G y v := by
  unfold nilA at hn
  split at hn
  · rcases hn with rfl | ⟨k, rfl⟩
    · exact h
    · cases h with
      | plain h1 h2 h3 => cases h2; exact .nil h3
  · subst hn; exact h
theorem RO.nils {sz : Nat} {es es' : List (List AV)} {v : Value} {G : Nat → Prop} (h : RO c w G (.row true sz es) v) (hn : nilR es es') : RO c w G (.row true sz es') v := by
  rcases h.inv with ⟨h1, h2, h3⟩ | ⟨b, cap, A, rfl, hA, C, e, fz, G', a1, a2, a3, a4, a5, a6, a7, a8, a9, a10, a11, a12⟩
  · subst h1 h2
    have : es' = [] := List.eq_nil_of_length_eq_zero (nilR_at hn).1.symm
    subst this
    exact .nil h3
  · obtain ⟨hl, hn1, hn2⟩ := nilR_at hn
    rw [hl]
    refine .own b C e fz G' a1 a2 (by omega) a4 a5 (fun e' he' => ?_) (fun i j y u hy hu => ?_) (fun i j y u hy hu => ?_) a9 a10 (fun i j k hk => ?_) a12 hA
    · obtain ⟨i, hi⟩ := List.getElem?_of_mem he'
      obtain ⟨d, hd, hdl⟩ := hn1 i e' hi
      rw [← (nilL_at hdl).1]; exact a6 d (List.mem_of_getElem? hd)
    · obtain ⟨x, hx, _⟩ := nilR_elt hn hy
      exact a7 i j x u hx hu
    · obtain ⟨x, hx, hxy⟩ := nilR_elt hn hy
      exact ((a8 i j x u hx hu).resolve_right (by simp)).nil1 hxy
    · have h5 := a11 i j k hk
      obtain ⟨x, hx⟩ := Option.isSome_iff_exists.1 h5
      obtain ⟨hi, hj⟩ := elt_lt a6 hx
      unfold elt
      cases hd : es[i]? with
      | none => unfold elt at hx; simp [hd] at hx
      | some d =>
        obtain ⟨e', he', hdl⟩ := hn2 i d hd
        have h6 := a6 d (List.mem_of_getElem? hd)
        have h7 := (nilL_at hdl).1
        rw [he']
        simp only [Option.bind_some, Option.isSome_iff_exists]
        exact ⟨e'[j]'(by omega), by simp⟩

/-- A cell is handed back as this. -/
def closeAV (m : Nat → Option Blk) : AV → AV → Prop
  | .lit (.slice none 0 0), y => y = .lit (.slice none 0 0) ∨ ∃ sz, y = .row true sz []
  | .lit v, y => y = .lit v
  | .loc s off len, y => match m s with
    | some (.row true sz es) => off = 0 ∧ len = es.length ∧ ∃ es', y = .row true sz es' ∧ nilR es es'
    | _ => False
  | _, _ => False
def closeL (m : Nat → Option Blk) : List AV → List AV → Prop
  | [], [] => True
  | x :: xs, y :: ys => closeAV m x y ∧ closeL m xs ys
  | _, _ => False
def closeTs (m : Nat → Option Blk) : List (Bool × List AV) → List (Bool × List AV) → Prop
  | [], [] => True
  | x :: xs, y :: ys => x.1 = y.1 ∧ closeL m x.2 y.2 ∧ closeTs m xs ys
  | _, _ => False
def locs : List AV → List Nat
  | [] => []
  | .loc s _ _ :: l => s :: locs l
  | _ :: l => locs l
def locsT : List (Bool × List AV) → List Nat
  | [] => []
  | x :: l => locs x.2 ++ locsT l
def wellT : List (Bool × List AV) → Bool
  | [] => true
  | x :: l => (x.1 || x.2.length == 1) && wellT l

def nodupB : List Nat → Bool
  | [] => true
  | x :: l => (l.all fun y => y != x) && nodupB l
theorem nodupB_ok : ∀ {l : List Nat}, nodupB l = true → l.Nodup
  | [], _ => List.nodup_nil
  | x :: l, h => by
    simp only [nodupB, Bool.and_eq_true, List.all_eq_true] at h
    exact List.nodup_cons.2 ⟨fun hm => by have := h.1 x hm; simp at this, nodupB_ok h.2⟩

/-- What is to hold where a function returns. -/
def fin (E : Tab) (rs : List ResultVar) (r : T) (σ : AS) : Prop :=
  match resVs E σ rs with
  | some vs => if (nodupB (locsT vs) && wellT vs) = true then (match vs, r with
    | [(false, xs)], .one y => closeL σ.mem xs [y]
    | [(true, xs)], .agg ys => closeL σ.mem xs ys
    | [], .tup ts => closeTs σ.mem [] ts
    | x :: y :: l, .tup ts => closeTs σ.mem (x :: y :: l) ts
    | _, _ => False) else False
  | none => False

theorem closeAV_ok (h : H w0 L n σ a w c F) {x y : AV} {v : Value} (hX : R c w x v) (hk : closeAV σ.mem x y) : RO c w (fun k => ∃ s ∈ locs [x], F s k) y v := by
  unfold closeAV at hk
  split at hk
  · cases hX
    rcases hk with rfl | ⟨sz, rfl⟩
    · exact .plain rfl (.lit _) (by simp [locs])
    · exact .nil (by simp [locs])
  · subst hk
    cases hX
    exact .plain rfl (.lit _) (by simp [locs])
  · rename_i s off len
    split at hk
    case h_2 => exact hk.elim
    rename_i sz es hs
    obtain ⟨rfl, rfl, es', rfl, hnil⟩ := hk
    refine RO.nils ?_ hnil
    have e : (fun k => ∃ s' ∈ locs [AV.loc s 0 es.length], F s' k) = F s := by funext k; simp [locs]
    rw [e]
    rcases h.mem s _ hs with ⟨hat, rfl, hF⟩ | ⟨b, cap, hat, hB⟩
    · cases hX with
      | locnil => exact .nil hF
      | loc h1 => rw [hat] at h1; cases h1
    · generalize hq : es.length = q at hX
      cases hX with
      | locnil h1 => rw [hat] at h1; cases h1
      | @loc _ _ _ b' cap' sz' A h1 hle hA =>
        rw [hat] at h1; cases h1
        subst hq
        exact hB.own (fun hc => by simpa using hA hc)
  · exact hk.elim

theorem locs_cons (x : AV) (xs : List AV) : locs (x :: xs) = locs [x] ++ locs xs := by cases x <;> simp [locs]

theorem closeL_ok (h : H w0 L n σ a w c F) : ∀ {xs ys : List AV} {vs : List Value}, (locs xs).Nodup → RL c w xs vs → closeL σ.mem xs ys → ROL c w (fun k => ∃ s ∈ locs xs, F s k) ys vs
  | [], [], [], _, _, _ => by simp [ROL, locs]
  | x :: xs, y :: ys, v :: vs, hn, hR, hk => by
    rw [locs_cons] at hn
    have hd := List.nodup_append.1 hn
    refine ⟨fun k => ∃ s ∈ locs [x], F s k, fun k => ∃ s ∈ locs xs, F s k, ⟨closeAV_ok h hR.1.1 hk.1, hR.1.2⟩, closeL_ok h hd.2.1 hR.2 hk.2, fun k => ?_, fun k => ?_⟩
    · rintro ⟨s, h1, h2⟩ ⟨s', h3, h4⟩
      have := h.disj _ _ _ h2 h4
      subst this
      exact hd.2.2 s h1 s h3 rfl
    · rw [locs_cons]; simp [or_and_right, exists_or]
theorem closeTs_ok (h : H w0 L n σ a w c F) : ∀ {ts us : List (Bool × List AV)} {vs : List Value}, (locsT ts).Nodup → wellT ts = true → RTs c w ts vs → closeTs σ.mem ts us → ROTs c w (fun k => ∃ s ∈ locsT ts, F s k) us vs
  | [], [], [], _, _, _, _ => by simp [ROTs, locsT]
  | (false, [x]) :: ts, (false, [y]) :: us, v :: vs, hn, hw, hR, hk => by
    simp only [locsT] at hn
    have hd := List.nodup_append.1 hn
    refine ⟨fun k => ∃ s ∈ locs [x], F s k, fun k => ∃ s ∈ locsT ts, F s k, ⟨closeAV_ok h hR.1.1 hk.2.1.1, hR.1.2⟩, closeTs_ok h hd.2.1 (by simpa [wellT] using hw) hR.2 hk.2.2, fun k => ?_, fun k => ?_⟩
    · rintro ⟨s, h1, h2⟩ ⟨s', h3, h4⟩
      have := h.disj _ _ _ h2 h4
      subst this
      exact hd.2.2 s h1 s h3 rfl
    · simp [locsT, or_and_right, exists_or]
  | (true, xs) :: ts, (true, ys) :: us, .agg vs' :: vs, hn, hw, hR, hk => by
    simp only [locsT] at hn
    have hd := List.nodup_append.1 hn
    refine ⟨fun k => ∃ s ∈ locs xs, F s k, fun k => ∃ s ∈ locsT ts, F s k, closeL_ok h hd.1 hR.1 hk.2.1, closeTs_ok h hd.2.1 (by simpa [wellT] using hw) hR.2 hk.2.2, fun k => ?_, fun k => ?_⟩
    · rintro ⟨s, h1, h2⟩ ⟨s', h3, h4⟩
      have := h.disj _ _ _ h2 h4
      subst this
      exact hd.2.2 s h1 s h3 rfl
    · simp [locsT, or_and_right, exists_or]

def resRun (tmps : Array Value) : ResultVar → Sem Value
  | .tmp t => pure (tmps.getD t undef)
  | .cell a t => do loadVar t (← asAddr (tmps.getD a undef))

theorem resV_ok {E : Tab} (hE : E.ok P) (h : H w0 L n σ a w c F) {r : ResultVar} {x : Bool × List AV} (hr : resV E σ r = some x) :
    ∃ V, (resRun a.tmps r).run P w = .ok V w ∧ ((x.1 = false ∧ ∃ y, x.2 = [y] ∧ R c w y V ∧ V.oneCell' = true) ∨ (x.1 = true ∧ ∃ vs, V = .agg vs ∧ RL c w x.2 vs.toList)) := by
  cases r with
  | tmp t =>
    simp only [resV] at hr
    have ht := h.tm t
    refine ⟨a.tmps.getD t undef, rfl, ?_⟩
    split at hr
    · rename_i y hy
      rw [hy] at ht
      cases hr
      exact .inl ⟨rfl, y, rfl, ht⟩
    · rename_i xs hy
      rw [hy] at ht
      cases hr
      refine .inr ⟨rfl, ?_⟩
      generalize a.tmps.getD t undef = V at ht ⊢
      cases V <;> first | exact ht.elim | exact ⟨_, rfl, ht⟩
    · cases hr
  | cell t ty =>
    simp only [resV] at hr
    split at hr
    case h_2 => cases hr
    rename_i sz g s hty hts
    replace hty := Tab.ty_ok hE hty
    split at hr
    case h_2 => cases hr
    rename_i xs hs
    split at hr
    case isFalse => cases hr
    rename_i hl
    cases hr
    have ht := h.tm t
    rw [hts] at ht
    obtain ⟨ht, _⟩ := ht
    generalize hq : a.tmps.getD t undef = V at ht
    cases ht with | @ptr _ _ b hp =>
    obtain ⟨b', hat, _, vs, hR, hv⟩ := h.varCells hs
    rw [hp] at hat; cases hat
    have hrun := run_loadVar_cells (P := P) (w := w) hty (b := b) (o := 0) vs (by rw [← hR.length]; exact hl) (fun k v hk => by rw [Nat.zero_add]; exact hv k v hk)
    refine ⟨_, by simp only [resRun, hq, asAddr, pure_bind]; exact hrun, ?_⟩
    cases g with
    | true => exact .inr ⟨rfl, _, rfl, hR⟩
    | false =>
      obtain ⟨i, d, _, _, _, _, h1⟩ := tyI_some hty
      have := h1 rfl
      rw [this] at hl
      match xs, vs, hl, hR with
      | [x], [v], _, hR => exact .inl ⟨rfl, x, rfl, hR.1⟩

theorem resVs_ok {E : Tab} (hE : E.ok P) (h : H w0 L n σ a w c F) : ∀ {rs : List ResultVar} {xs : List (Bool × List AV)}, resVs E σ rs = some xs → ∃ Vs : List Value, (rs.mapM (resRun a.tmps)).run P w = .ok Vs w ∧ RTs c w xs Vs ∧ Vs.length = rs.length
  | [], xs, hr => by simp [resVs] at hr; subst hr; exact ⟨[], by simp, trivial, rfl⟩
  | r :: rs, xs, hr => by
    simp only [resVs] at hr
    split at hr
    case h_2 => cases hr
    rename_i x xs' hx hxs
    cases hr
    obtain ⟨V, h1, h2⟩ := resV_ok hE h hx
    obtain ⟨Vs, h3, h4, h5⟩ := resVs_ok hE h hxs
    refine ⟨V :: Vs, ?_, ?_, by simp [h5]⟩
    · rw [List.mapM_cons, Sem.run_bind, h1]
      simp only [Result.andThen_ok, Sem.run_bind, h3, Sem.run_pure]
    · obtain ⟨b, ys⟩ := x
      rcases h2 with ⟨rfl, y, rfl, h2⟩ | ⟨rfl, vs, rfl, h2⟩
      · exact ⟨h2, h4⟩
      · exact ⟨h2, h4⟩

theorem fin_ok {E : Tab} (hE : E.ok P) (h : H w0 L n σ a w c F) {fn : Func} {r : T} (hk : fin E fn.results.toList r σ) :
    ∃ V, (results fn a.tmps).run P w = .ok V w ∧ ∃ G : Nat → Prop, ROT' c w G r V ∧ ∀ k, G k → ∃ s, F s k := by
  unfold fin at hk
  split at hk
  case h_2 => exact hk.elim
  rename_i vs hvs
  split at hk
  case isFalse => exact hk.elim
  rename_i hnw
  simp only [Bool.and_eq_true] at hnw
  obtain ⟨hn, hw⟩ := hnw
  replace hn := nodupB_ok hn
  obtain ⟨Vs, h1, h2, h3⟩ := resVs_ok hE h hvs
  have hrun : (results fn a.tmps).run P w = .ok (if h : Vs.toArray.size = 1 then Vs.toArray[0] else .tuple Vs.toArray) w := by
    have e : results fn a.tmps = (do let vs ← fn.results.mapM (resRun a.tmps); pure (if h : vs.size = 1 then vs[0] else .tuple vs)) := by
      unfold results
      rfl
    rw [e, Array.mapM_eq_mapM_toList]
    simp only [Sem.run_bind, Sem.run_map, Result.andThen_ok, h1, Sem.run_pure]
  refine ⟨_, hrun, fun k => ∃ s ∈ locsT vs, F s k, ?_, fun k ⟨s, _, hs⟩ => ⟨s, hs⟩⟩
  split at hk
  · rename_i xs y
    have hx : ∃ x, xs = [x] := by
      simp [wellT] at hw
      match xs, hw with
      | [x], _ => exact ⟨x, rfl⟩
    obtain ⟨x, rfl⟩ := hx
    match Vs, h2 with
    | [v], h2 =>
      have := closeAV_ok h h2.1.1 hk.1
      simp only [locsT, List.append_nil]
      exact ⟨this, h2.1.2⟩
  · rename_i xs ys
    match Vs, h2 with
    | [.agg us], h2 =>
      simp only [locsT, List.append_nil] at hn ⊢
      exact closeL_ok h hn h2.1 hk
  · match Vs, h2 with
    | [], h2 => exact closeTs_ok h hn hw h2 hk
  · rename_i x y l ts
    have hlen : Vs.length ≠ 1 := by
      have : ∀ {xs : List (Bool × List AV)} {Vs : List Value}, RTs c w xs Vs → xs.length = Vs.length := by
        intro xs
        induction xs with
        | nil => intro Vs h; cases Vs with | nil => rfl | cons => exact h.elim
        | cons t xs ih =>
          intro Vs h
          match t, Vs, h with
          | (false, [x]), v :: vs, h => simp [ih h.2]
          | (true, ys), .agg us :: vs, h => simp [ih h.2]
      rw [← this h2]; simp
    rw [dif_neg (by simpa using hlen)]
    exact closeTs_ok h hn hw h2 hk
  · exact hk.elim

def AS.init (args : List T) : AS := ⟨fun t => args.getD t .dead, fun _ => none⟩

/-- THE RULE OF A FUNCTION. -/
theorem fun1_of_vc {E : Tab} (hE : E.ok P) {f : FuncId} {fn : Func} {x : Code} {args : List T} {r : T} (hmix : P.follows .mixedOrders = true) (hf : P.funcs[f]? = some fn) (hb : fn.body = some x) (hname : (fn.name == "runtime.NumGoroutine") = false)
    (hok : okCode E fn.ntmps x = true) (hlen : args.length ≤ fn.ntmps) (hnb : r.nb = true) (h : vcCode P E x (fin E fn.results.toList r) (fun _ _ => False) (fin E fn.results.toList r) (AS.init args)) : Fun1 P f args r := by
  refine ⟨⟨fn, hf, by simp [hb], hname⟩, hnb, fun w I vs hI hargs => ?_⟩
  have hvl : vs.toList.length = args.length := by
    have : ∀ {ts : List T} {us : List Value}, RTL (c0 I) w ts us → us.length = ts.length := by
      intro ts
      induction ts with
      | nil => intro us h; cases us with | nil => rfl | cons => exact h.elim
      | cons t ts ih => intro us h; cases us with | nil => exact h.elim | cons u us => simp [ih h.2]
    exact this hargs
  have hat : ∀ {ts : List T} {us : List Value}, RTL (c0 I) w ts us → ∀ t : Nat, RT (c0 I) w (ts.getD t .dead) (us.getD t undef) := by
    intro ts
    induction ts with
    | nil => intro us h t; trivial
    | cons t ts ih =>
      intro us h k
      cases us with
      | nil => exact h.elim
      | cons u us =>
        cases k with
        | zero => exact h.1
        | succ k => exact ih h.2 k
  refine calls_of_wp hf hb ?_
  have hH : H w (fun _ => False) fn.ntmps (AS.init args) { tmps := vs ++ Array.replicate (fn.ntmps - vs.size) undef, defers := [] } w (c0 I) (fun _ _ => False) := by
    have hvs : vs.size = args.length := by simpa using hvl
    refine { keeps := ⟨rfl, rfl, rfl, Nat.le_refl _, fun _ _ _ => rfl⟩, size := by simp; omega, defers := rfl, tm := fun t => ?_, mem := fun s k hk => (by cases hk), dom := fun s _ => ⟨rfl, fun k h => h⟩, disj := fun _ _ _ h => h.elim, new := fun _ _ h => h.elim, imm := hI, inn := fun _ _ h => h.elim, par := fun s v x hk => (by cases hk) }
    have := hat hargs t
    by_cases ht : t < vs.size
    · have e : (vs ++ Array.replicate (fn.ntmps - vs.size) undef).getD t undef = vs.toList.getD t undef := by
        rw [Array.getD_eq_getD_getElem?, Array.getElem?_append_left ht]
        simp
      rw [e]; exact this
    · have e : args.getD t .dead = .dead := by rw [List.getD_eq_getElem?_getD, List.getElem?_eq_none (by omega)]; rfl
      show RT _ _ (args.getD t .dead) _
      rw [e]; trivial
  have done : ∀ σ' a' w', Holds w (fun _ => False) fn.ntmps σ' a' w' → fin E fn.results.toList r σ' → a'.defers = [] ∧ ∃ V, (results fn a'.tmps).run P w' = .ok V w' ∧ ∃ v F, Ending.returned V = .returned v ∧ ROT' (c0 I) w' F r v ∧ (∀ k, F k → w.heap.size ≤ k ∧ k < w'.heap.size) ∧ Below w.heap.size w w' := by
    rintro σ' a' w' ⟨c', F', h'⟩ hf'
    obtain ⟨V, h1, G, h2, h3⟩ := fin_ok hE h' hf'
    refine ⟨h'.defers, V, h1, V, G, rfl, h2.nb hnb, fun k hk => ?_, ⟨h'.keeps.os, h'.keeps.tape, h'.keeps.output, h'.keeps.size, fun k hk => h'.keeps.block k hk (fun h => h)⟩⟩
    obtain ⟨s, hs⟩ := h3 k hk
    have := h'.new s k hs
    exact ⟨this.1.resolve_right (fun h => h), this.2⟩
  exact vc_ok hE hmix x (n := fn.ntmps) (w0 := w) (L := fun _ => False) hok (fun σ' a' w' h1 h2 => done σ' a' w' h1 h2) (fun _ _ _ _ _ h => h.elim) (fun σ' a' w' h1 h2 => done σ' a' w' h1 h2) h ⟨_, _, hH⟩
end
end Go.Proofs.Ytlijeincckbdaaa
