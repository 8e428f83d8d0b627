/- More laws of this session's own for rows of the call's own. -/
import Derived.Test.YtdgnpkffdiopaaaWp
namespace Go.Proofs.Ytdgnpkffdiopaaa
open Go.RowKit
set_option linter.unusedSimpArgs false
set_option linter.unusedVariables false
section
variable {α : Type} {d : Kd α} {w : World} {F : List Nat} {e : TypeId} {v : Value} {xs : List α}
theorem Ow.drewN (h : Ow d e w F v xs) (n : Nat) : Ow d e (w.drewN n) F v xs := Ow.below (w' := w.drewN n) (Below.trans (Below.refl w.heap.size w) ⟨rfl, rfl, rfl, Nat.le_refl _, fun _ _ => rfl⟩) h
end
section
variable {α : Type} {d : Kd α} {e : TypeId} {F : List Nat} {g n c : Nat} {xs : List α}
/-- A store of one element into a row of the call's own, as a round's end needs it. -/
theorem Ow.store {R : World → Prop} {W wr : World} {k : Nat} {y : α} {Fy : List Nat} {cy : List Value} (h : Ow d e W F (.slice (some ⟨g, 0, none⟩) n c) xs) (hW : Below wr.heap.size wr W) (hd : 0 < d.sz) (hk : k < xs.length) (hy : d.O W Fy y cy) (hdis : ∀ b ∈ Fy, b ∉ F)
    (hR : ∀ w' F', Ow d e w' F' (.slice (some ⟨g, 0, none⟩) n c) (xs.set k y) → (∀ b ∈ F', b ∈ F ∨ b ∈ Fy) → Keep [g] wr w' → R w') : R (setAll W g (k * d.sz) cy) := by
  obtain ⟨F', h1, h2⟩ := h.set_new hd hk hy hdis
  exact hR _ F' h1 h2 ((Keep.of_below hW).trans (setAll_keep _ _ _ _))
theorem Ow.storeA {R : World → Prop} {W wr : World} {o : Obj} {k : Nat} {y : α} {Fy : List Nat} {cy : List Value} (h : Ow d e W F (.slice (some ⟨g, 0, none⟩) n c) xs) (hW : Below wr.heap.size wr W) (hd : 0 < d.sz) (hk : k < xs.length) (hy : d.O W Fy y cy) (hdis : ∀ b ∈ Fy, b ∉ F)
    (hR : ∀ w' F', Ow d e w' F' (.slice (some ⟨g, 0, none⟩) n c) (xs.set k y) → (∀ b ∈ F', b ∈ F ∨ b ∈ Fy) → Keep [g] wr w' → R w') : R ((setAll W g (k * d.sz) cy).alloc o) := by
  obtain ⟨F', h1, h2⟩ := h.set_new hd hk hy hdis
  exact hR _ F' (h1.alloc _) h2 (((Keep.of_below hW).trans (setAll_keep _ _ _ _)).trans (Keep.alloc _ _ _))
theorem Ow.storeAD {R : World → Prop} {W wr : World} {o : Obj} {k : Nat} {y : α} {Fy : List Nat} {cy : List Value} (h : Ow d e W F (.slice (some ⟨g, 0, none⟩) n c) xs) (hW : Below wr.heap.size wr W) (hd : 0 < d.sz) (hk : k < xs.length) (hy : d.O W Fy y cy) (hdis : ∀ b ∈ Fy, b ∉ F)
    (hR : ∀ w' F', Ow d e w' F' (.slice (some ⟨g, 0, none⟩) n c) (xs.set k y) → (∀ b ∈ F', b ∈ F ∨ b ∈ Fy) → Keep [g] wr w' → R w') : R ((setAll W g (k * d.sz) cy).alloc o).drew := by
  obtain ⟨F', h1, h2⟩ := h.set_new hd hk hy hdis
  exact hR _ F' (h1.alloc _).drew h2 ((((Keep.of_below hW).trans (setAll_keep _ _ _ _)).trans (Keep.alloc _ _ _)).trans (Keep.drew _ _))
end
theorem no_mem' {F : List Nat} : ∀ b ∈ ([] : List Nat), b ∉ F := fun b hb => by cases hb
theorem ne_of_old {F : List Nat} {B b : Nat} (h : ∀ k ∈ F, k < B) (hb : B ≤ b) : b ∉ F := fun hm => by have := h b hm; omega
end Go.Proofs.Ytdgnpkffdiopaaa
