/- The abstract machine: append. -/
import Derived.Test.YtlijeincckbdaaaA10
namespace Go.Proofs.Ytlijeincckbdaaa
open Go.RowKit
set_option linter.unusedSimpArgs false
set_option linter.unusedVariables false

def AV.noref (s : Nat) : AV → Bool
  | .ptr s' _ => s' != s
  | .eptr s' _ _ => s' != s
  | .loc s' _ _ => s' != s
  | .fn _ _ => false
  | _ => true
def AV.kill (s : Nat) : AV → AV
  | .ptr s' j => if s' = s then .dead else .ptr s' j
  | .eptr s' i j => if s' = s then .dead else .eptr s' i j
  | .loc s' o l => if s' = s then .dead else .loc s' o l
  | .fn f caps => if caps.all (AV.noref s) then .fn f caps else .dead
  | x => x
def T.kill (s : Nat) : T → T
  | .one x => .one (x.kill s)
  | .agg xs => .agg (xs.map (AV.kill s))
  | .tup ts => .tup (ts.map fun t => (t.1, t.2.map (AV.kill s)))
  | .dead => .dead
def Blk.kill (s : Nat) : Blk → Blk
  | .var xs => .var (xs.map (AV.kill s))
  | .row true sz es => .row true sz es
  | .row false sz es => .row false sz (es.map fun e => e.map (AV.kill s))
  | .par v x => .par v x
  | .pin s' i => if s' = s then .par default .dead else .pin s' i
def AS.drop (σ : AS) (s : Nat) : AS := ⟨fun t => (σ.tm t).kill s, fun s' => if s' = s then none else (σ.mem s').map (Blk.kill s)⟩
def Ctx.del (c : Ctx) (s : Nat) : Ctx := ⟨fun s' => if s' = s then none else c.at_ s', c.I⟩

section
variable {P : Program} {w0 w : World} {L : Nat → Prop} {n : Nat} {σ : AS} {a : Act} {c : Ctx} {F : Nat → Nat → Prop}

theorem R.noref {s : Nat} {x : AV} {v : Value} (h : R c w x v) (hn : x.noref s = true) : R (c.del s) w x v := by
  cases x with
  | dead => exact .dead v
  | lit => cases h; exact .lit _
  | ptr s' j => cases h with | ptr h => simp [AV.noref] at hn; exact .ptr (by simp [Ctx.del, hn, h])
  | eptr s' i j => cases h with | @eptr _ _ _ b cap sz h => simp [AV.noref] at hn; exact .eptr (b := b) (cap := cap) (sz := sz) (by simp [Ctx.del, hn, h])
  | loc s' o l =>
    simp [AV.noref] at hn
    cases h with
    | loc h a b => exact .loc (by simp [Ctx.del, hn, h]) a b
    | locnil h => exact .locnil (by simp [Ctx.del, hn, h])
  | row => exact R.free (c := c) (c' := c.del s) (fun _ h => h) (fun _ _ => rfl) h rfl
  | bptr => exact R.free (c := c) (c' := c.del s) (fun _ h => h) (fun _ _ => rfl) h rfl
  | nn => exact R.free (c := c) (c' := c.del s) (fun _ h => h) (fun _ _ => rfl) h rfl
  | fn => simp [AV.noref] at hn

theorem R.kill {s : Nat} {x : AV} {v : Value} (h : R c w x v) : R (c.del s) w (x.kill s) v := by
  cases x with
  | dead => exact .dead v
  | lit => exact h.noref rfl
  | row => exact h.noref rfl
  | bptr => exact h.noref rfl
  | nn => exact h.noref rfl
  | ptr s' j =>
    simp only [AV.kill]
    split
    · exact .dead v
    · exact h.noref (by simpa [AV.noref])
  | eptr s' i j =>
    simp only [AV.kill]
    split
    · exact .dead v
    · exact h.noref (by simpa [AV.noref])
  | loc s' o l =>
    simp only [AV.kill]
    split
    · exact .dead v
    · exact h.noref (by simpa [AV.noref])
  | fn f caps =>
    simp only [AV.kill]
    split
    · rename_i hc
      cases h with | fn a1 a0 a2 => exact .fn a1 a0 (fun k x v hx hv => (a2 k x v hx hv).noref (List.all_eq_true.1 hc _ (List.mem_of_getElem? hx)))
    · exact .dead v

theorem RL.kill {s : Nat} : ∀ {xs : List AV} {vs : List Value}, RL c w xs vs → RL (c.del s) w (xs.map (AV.kill s)) vs
  | [], [], _ => trivial
  | _ :: _, _ :: _, h => ⟨⟨h.1.1.kill, h.1.2⟩, RL.kill h.2⟩
theorem RTs.kill {s : Nat} : ∀ {ts : List (Bool × List AV)} {vs : List Value}, RTs c w ts vs → RTs (c.del s) w (ts.map fun t => (t.1, t.2.map (AV.kill s))) vs
  | [], [], _ => trivial
  | (false, [x]) :: _, _ :: _, h => ⟨⟨h.1.1.kill, h.1.2⟩, RTs.kill h.2⟩
  | (true, _) :: _, .agg _ :: _, h => ⟨RL.kill h.1, RTs.kill h.2⟩
theorem RT.kill {s : Nat} {t : T} {v : Value} (h : RT c w t v) : RT (c.del s) w (t.kill s) v := by
  cases t with
  | dead => trivial
  | one x => exact ⟨h.1.kill, h.2⟩
  | agg xs => cases v <;> first | exact h.elim | exact RL.kill h
  | tup ts => cases v <;> first | exact h.elim | exact RTs.kill h

theorem RO.ctx {c' : Ctx} (h2 : ∀ b, c.I b → c'.I b) {F : Nat → Prop} {x : AV} {v : Value} (h : RO c w F x v) : RO c' w F x v := by
  induction h with
  | @plain F x v a1 a2 a3 => exact .plain a1 (a2.free h2 (fun _ _ => rfl) (by cases x <;> simp_all [AV.isData, AV.isFree])) a3
  | nil a => exact .nil a
  | own b C e fz G a1 a2 a3 a4 a5 a6 a7 a8 a9 a10 a11 a12 a13 ih => exact .own b C e fz G a1 a2 a3 a4 a5 a6 a7 ih a9 a10 a11 a12 a13

theorem elt_map {es : List (List AV)} {f : AV → AV} {i j : Nat} {x : AV} (h : elt (es.map fun e => e.map f) i j = some x) : ∃ y, elt es i j = some y ∧ x = f y := by
  unfold elt at h ⊢
  rw [List.getElem?_map] at h
  cases he : es[i]? with
  | none => simp [he] at h
  | some e =>
    simp only [he, Option.map_some, Option.bind_some, List.getElem?_map] at h ⊢
    cases hy : e[j]? with
    | none => simp [hy] at h
    | some y => simp [hy] at h; exact ⟨y, rfl, h.symm⟩

theorem AV.kill_cell {s : Nat} {x : AV} (h : x.isCell = true) : x.kill s = x := by cases x <;> first | rfl | simp [AV.isCell] at h

theorem RowB.kill {s : Nat} {b cap sz : Nat} {es : List (List AV)} {F : Nat → Prop} (h : RowB c w false b cap sz es F) : RowB (c.del s) w false b cap sz (es.map fun e => e.map (AV.kill s)) F := by
  obtain ⟨C, e, fz, G, a1, a2, a3, a4, a5, a6, a7, a8, a9, a10, a11, a12⟩ := h
  refine ⟨C, e, fz, G, a1, a2, by simpa using a3, a4, a5, fun e' he' => ?_, fun i j x v hx hv => ?_, fun i j x v hx hv => ?_, a9, a10, fun i j k hk => ?_, a12⟩
  · obtain ⟨e'', h1, rfl⟩ := List.mem_map.1 he'; simpa using a6 _ h1
  · obtain ⟨y, hy, rfl⟩ := elt_map hx; exact a7 i j y v hy hv
  · obtain ⟨y, hy, rfl⟩ := elt_map hx
    rcases a8 i j y v hy hv with h1 | ⟨h1, h2, h3⟩
    · rw [AV.kill_cell h1.isCell]; exact .inl (RO.ctx (c := c) (c' := c.del s) (fun _ h => h) h1)
    · exact .inr ⟨h1, h2, h3.1.kill, by have h4 := h3.2; cases y <;> first | exact h4 | (simp only [AV.kill]; split <;> exact h4) | (simp only [AV.kill]; split <;> rfl) | rfl⟩
  · have := a11 i j k hk
    obtain ⟨x, hx⟩ := Option.isSome_iff_exists.1 this
    unfold elt at hx ⊢
    rw [List.getElem?_map]
    cases he : es[i]? with
    | none => simp [he] at hx
    | some e => simp [he] at hx ⊢; exact (List.getElem?_eq_some_iff.1 hx).1

theorem BlkOk.kill {F : Nat → Prop} {s s' : Nat} (hs : s' ≠ s) {k : Blk} (h : BlkOk c w F s' k) : BlkOk (c.del s) w F s' (k.kill s) := by
  cases k with
  | var xs =>
    obtain ⟨b, C, e, fz, a1, a2, a3, a4, a5⟩ := h
    exact ⟨b, C, e, fz, by simp [Ctx.del, hs, a1], a2, a3, a4.kill, a5⟩
  | row p sz es =>
    cases p with
    | true =>
      rcases h with ⟨a1, a2, a3⟩ | ⟨b, cap, a1, C, e, fz, G, b1, b2, b3, b4, b5, b6, b7, b8, b9, b10, b11, b12⟩
      · exact .inl ⟨by simp [Ctx.del, hs, a1], a2, a3⟩
      · exact .inr ⟨b, cap, by simp [Ctx.del, hs, a1], C, e, fz, G, b1, b2, b3, b4, b5, b6, b7, fun i j x v hx hv => .inl (RO.ctx (c := c) (c' := c.del s) (fun _ h => h) ((b8 i j x v hx hv).resolve_right (by simp))), b9, b10, b11, b12⟩
    | false =>
      rcases h with ⟨a1, rfl, a3⟩ | ⟨b, cap, a1, hB⟩
      · exact .inl ⟨by simp [Ctx.del, hs, a1], rfl, a3⟩
      · exact .inr ⟨b, cap, by simp [Ctx.del, hs, a1], hB.kill⟩
  | par v x => exact ⟨by simp [Ctx.del, hs, h.1], h.2⟩
  | pin s2 i =>
    obtain ⟨a1, a2, a3⟩ := h
    simp only [Blk.kill]
    split
    · exact ⟨by simp [Ctx.del, hs, a1], a2⟩
    · rename_i hne
      exact ⟨by simp [Ctx.del, hs, a1], a2, by simp [Ctx.del, hne, a3]⟩

/-- A place is given up: what spoke of it says nothing any more. -/
theorem H.drop (h : H w0 L n σ a w c F) (s : Nat) : H w0 L n (σ.drop s) a w (c.del s) (fun s' b => s' ≠ s ∧ F s' b) := by
  refine ⟨h.keeps, h.size, h.defers, fun t => (h.tm t).kill, fun s' k hk => ?_, fun s' hs' => ?_, fun s1 s2 b h1 h2 => h.disj _ _ _ h1.2 h2.2, fun s' b hb => h.new s' b hb.2, h.imm, fun s' b hb => ?_, fun s' v x hk => ?_⟩
  · by_cases e : s' = s
    · subst e; simp [AS.drop] at hk
    · simp [AS.drop, e] at hk
      obtain ⟨k', hk', rfl⟩ := hk
      have := (h.mem s' k' hk').kill (s := s) e
      rw [show (fun b => s' ≠ s ∧ F s' b) = F s' from funext fun b => propext (by simp [e])]
      exact this
  · by_cases e : s' = s
    · subst e; exact ⟨by simp [Ctx.del], fun k hk => hk.1 rfl⟩
    · simp [AS.drop, e] at hs'
      have := h.dom s' hs'
      exact ⟨by simp [Ctx.del, this.1], fun k hk => this.2 k hk.2⟩
  · have := h.inn s' b hb.2
    rw [show (c.del s).I b ↔ c.I b from Iff.rfl, this]
    simp [Ctx.top, Ctx.del, hb.1]
  · by_cases e : s' = s
    · subst e; simp [AS.drop] at hk
    · simp [AS.drop, e] at hk
      obtain ⟨k', hk', hk2⟩ := hk
      cases k' with
      | par v' x' => cases hk2; exact h.par s' _ _ hk'
      | var xs => cases hk2
      | row p sz es => cases p <;> cases hk2
      | pin s2 i =>
        simp only [Blk.kill] at hk2
        split at hk2 <;> cases hk2
        exact ⟨rfl, .dead _⟩

/-- What append leaves, case by case. -/
theorem run_append_nothing {t ty e : TypeId} {i : TypeInfo} (ht : P.underlying t = some (.slice e)) (hi : P.info? e = some i) {X : Value} {A : Option Addr} {cp : Nat} (hX : X = .slice none 0 0 ∨ ∃ g m cap, X = .slice (some g) m cap ∧ m ≤ cap) :
    (Builtin.append_ #[t, t] ty #[X, .slice A 0 cp]).run P w = .ok X w := by
  have h1 : ∀ (s : Nat), (Builtin.firstCells s 0 (.slice A 0 cp)).run P w = .ok #[] w := fun s => by
    cases A <;> simp [Builtin.firstCells, loadCells, loadCellsFrom]
  rcases hX with rfl | ⟨g, m, cap, rfl, hm⟩
  · simp [Builtin.append_, run_underlying ht, sizeOf, typeInfo, hi, Builtin.lenOf, h1]
  · simp [Builtin.append_, run_underlying ht, sizeOf, typeInfo, hi, Builtin.lenOf, h1, hm, storeCells]

theorem run_append_place {t ty e : TypeId} {i : TypeInfo} (ht : P.underlying t = some (.slice e)) (hi : P.info? e = some i)
    {g sLen sCap : Nat} {cur : Array Value} {el : TypeId} {fz : Nat × Nat} (hg : w.heap[g]? = some (.cells cur el fz)) {sz : Nat} (hfz : Unfz sz cur fz)
    {a : Addr} {m c : Nat} {news : List Value} (hl : news.length = m * i.size) (hnews : ∀ j v, news[j]? = some v → w.cell? (a.add j) = some v) (h1 : ∀ u ∈ news, u.oneCell' = true)
    (hroom : sLen + m ≤ sCap) (hfit : sLen * i.size + news.length ≤ cur.size) :
    (Builtin.append_ #[t, t] ty #[.slice (some ⟨g, 0, none⟩) sLen sCap, .slice (some a) m c]).run P w =
      .ok (.slice (some ⟨g, 0, none⟩) (sLen + m) sCap) (w.setRow g (cur.toList.take (sLen * i.size) ++ news ++ cur.toList.drop (sLen * i.size + news.length)).toArray) := by
  have hf := run_firstCells_some (P := P) w i.size m a m c news hl hnews
  have hst := run_storeCells_unfz P g (sLen * i.size) el fz news 0 cur w hg hfz (by simpa using hfit) h1
  simp only [Nat.add_zero] at hst
  simp [Builtin.append_, run_underlying ht, sizeOf, typeInfo, hi, Builtin.lenOf, hroom, hf, Addr.add_lit, hst]
end
end Go.Proofs.Ytlijeincckbdaaa
