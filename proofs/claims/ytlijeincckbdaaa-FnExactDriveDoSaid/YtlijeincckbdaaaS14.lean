/- Contracts (reference): a file put into a list. -/
import Derived.Test.YtlijeincckbdaaaS13
namespace Go.Proofs.Ytlijeincckbdaaa
open Go.RowKit
set_option linter.unusedSimpArgs false
set_option linter.unusedVariables false
set_option maxRecDepth 100000
set_option maxHeartbeats 4000000
/-- The first place whose name is not below. -/
def inK (l : List DStored) (name : ByteArray) : Nat := l.findIdx fun y => !bLt y.name name
def isAt (l : List DStored) (k : Nat) (name : ByteArray) : Bool := match l[k]? with
  | some y => decide (y.name = name)
  | none => false
def insL (l : List DStored) (f : DStored) : List DStored := l.take (inK l f.name) ++ [f] ++ l.drop (inK l f.name + (if isAt l (inK l f.name) f.name = true then 1 else 0))
theorem inK_le (l : List DStored) (name : ByteArray) : inK l name ≤ l.length := List.findIdx_le_length
theorem inK_eq {l : List DStored} {name : ByteArray} {i : Nat} (hi : i ≤ l.length) (h1 : ∀ t (h : t < l.length), t < i → bLt l[t].name name = true) (h2 : ∀ h : i < l.length, bLt l[i].name name = false) : inK l name = i := by
  unfold inK
  rcases Nat.lt_or_ge i l.length with h | h
  · exact (List.findIdx_eq h).2 ⟨by simp [h2 h], fun j hj => by simp [h1 j (by omega) hj]⟩
  · have : i = l.length := by omega
    subst this
    exact List.findIdx_eq_length.2 fun x hx => by
      obtain ⟨t, ht, rfl⟩ := List.mem_iff_getElem.1 hx
      simp [h1 t ht ht]
theorem l08In_c (l : List DStored) (hl : l.length ≤ 4294967295) (f : DStored) : Fun1 Try.prog 192 [.one (.row true 3 (l.map DStored.enc)), .agg f.enc] (.one (.row true 3 ((insL l f).map DStored.enc))) := by
  refine fun1_of_vc tb_ok mix (fn := Try.f192) Try.func192 rfl (by kernel_rfl) (by kernel_rfl) (by simp [Try.f192]) (by show AV.nb (4 + 1) _ = true; exact nb_map (n := 4) (fun y => DStored.enc_nbn 4 y) _) ?_
  (conv => whnf)
  refine ⟨LG (fun i : Nat => i ≤ l.length ∧ ∀ t (h : t < l.length), t < i → bLt l[t].name f.name = true) (fun i => l.length - i) (fun i => AS.of [(0, .one (.row true 3 (l.map DStored.enc))), (3, .one (.ptr 48 0)), (5, .one (.lit (.int .i64 (i : Nat))))] [(48, .var f.enc)]), lg_init 0 ⟨by omega, fun t _ h => by omega⟩ (weak_of (by repeat (first | refine all_cons (by first | rfl | exact eq_int rfl (by first | rfl | omega | (simp; done) | (simp; omega)) | exact eq_loc rfl (by first | rfl | omega | (simp; done) | (simp; omega)) | exact eq_bool rfl (by simp_all)) ?_ | exact all_nil)) (by repeat (first | refine all_cons (by first | rfl | exact eq_int rfl (by first | rfl | omega | (simp; done) | (simp; omega)) | exact eq_loc rfl (by first | rfl | omega | (simp; done) | (simp; omega)) | exact eq_bool rfl (by simp_all)) ?_ | exact all_nil)) rfl rfl), ?_⟩
  rintro σ k ⟨i, ⟨hi, hc⟩, rfl, rfl⟩
  refine ⟨_, Weak.refl _, ?_⟩
  (conv => whnf)
  (split <;> rename_i h <;> (try simp only [decide_eq_true_eq, decide_eq_false_iff_not, Bool.not_eq_true', Bool.not_eq_false', Bool.not_eq_true, Bool.not_eq_false, List.length_map] at h) <;> conv => whnf)
  · have hlt : i < l.length := by omega
    refine ⟨i, rfl, _, at_map hlt, ?_⟩; (conv => whnf)
    (split <;> rename_i h2 <;> (try simp only [decide_eq_true_eq, decide_eq_false_iff_not, Bool.not_eq_true', Bool.not_eq_false', Bool.not_eq_true, Bool.not_eq_false, List.length_map] at h2) <;> conv => whnf)
    · (refine ⟨((i + 1 : Nat) : Int), by rw [← wrap64_id] <;> omega, ?_⟩; conv => whnf)
      exact lg_back (i + 1) ⟨by omega, fun t h ht => by
        by_cases e : t = i
        · subst e; exact h2
        · exact hc t h (by omega)⟩ (by (try dsimp only); omega) (weak_of (by repeat (first | refine all_cons (by first | rfl | exact eq_int rfl (by first | rfl | omega | (simp; done) | (simp; omega)) | exact eq_loc rfl (by first | rfl | omega | (simp; done) | (simp; omega)) | exact eq_bool rfl (by simp_all)) ?_ | exact all_nil)) (by repeat (first | refine all_cons (by first | rfl | exact eq_int rfl (by first | rfl | omega | (simp; done) | (simp; omega)) | exact eq_loc rfl (by first | rfl | omega | (simp; done) | (simp; omega)) | exact eq_bool rfl (by simp_all)) ?_ | exact all_nil)) rfl rfl)
    · refine ⟨by decide, by simp, by simp; omega, (l.take i).map DStored.enc, by simp [List.map_take], ?_⟩; (conv => whnf)
      refine ⟨true, _, ⟨rfl, rfl, rfl⟩, ?_⟩; (conv => whnf)
      refine ⟨_, laid_map (f := DStored.enc) (fun _ => rfl) (l.take i), rfl, rfl, rfl, by simp [maxLen, chunk]; omega, by simp [chunk]; omega, ?_⟩; (conv => whnf)
      refine ⟨true, [f.enc], ⟨rfl, by simp [chunk], rfl, by simp [chunk]; rfl⟩, ?_⟩; (conv => whnf)
      refine ⟨[f.enc], laid_map (f := DStored.enc) (fun _ => rfl) [f], rfl, by simp [chunk], rfl, by simp [maxLen, chunk]; omega, by simp [chunk]; omega, ?_⟩; (conv => whnf)
      have hk : inK l f.name = i := inK_eq hi hc fun _ => by show sless _ _ = false; simpa using h2
      (split <;> rename_i h3 <;> (try simp only [decide_eq_true_eq, decide_eq_false_iff_not, Bool.not_eq_true', Bool.not_eq_false', Bool.not_eq_true, Bool.not_eq_false, List.length_map] at h3) <;> conv => whnf)
      · refine ⟨i, rfl, _, at_map hlt, ?_⟩; (conv => whnf)
        (split <;> rename_i h4 <;> (try simp only [decide_eq_true_eq, decide_eq_false_iff_not, Bool.not_eq_true', Bool.not_eq_false', Bool.not_eq_true, Bool.not_eq_false, List.length_map] at h4) <;> conv => whnf)
        · (refine ⟨((i + 1 : Nat) : Int), by rw [← wrap64_id] <;> omega, ?_⟩; conv => whnf)
          have he : insL l f = l.take i ++ [f] ++ l.drop (i + 1) := by
            unfold insL
            rw [hk, if_pos (by simp only [isAt, List.getElem?_eq_getElem hlt]; exact decide_eq_true h4)]
          refine ⟨by simp; omega, by simp; omega, by simp, (l.drop (i + 1)).map DStored.enc, by simp only [List.map_drop]; exact (List.take_of_length_le (by simp)).symm, ?_⟩; (conv => whnf)
          refine ⟨true, _, ⟨rfl, rfl, rfl⟩, ?_⟩; (conv => whnf)
          refine ⟨_, laid_map (f := DStored.enc) (fun _ => rfl) (l.drop (i + 1)), rfl, by simp [chunk], rfl, by simp [maxLen, chunk]; omega, by simp [chunk]; omega, ?_⟩; (conv => whnf)
          exact ⟨close_row rfl rfl (by simp [chunk]; omega) (by rw [he]; simp [chunk]), trivial⟩
        · have he : insL l f = l.take i ++ [f] ++ l.drop i := by
            unfold insL
            rw [hk, if_neg (by simp only [isAt, List.getElem?_eq_getElem hlt]; simpa using h4)]
            rfl
          refine ⟨by simp, by simp; omega, by simp, (l.drop i).map DStored.enc, by simp only [List.map_drop]; exact (List.take_of_length_le (by simp)).symm, ?_⟩; (conv => whnf)
          refine ⟨true, _, ⟨rfl, rfl, rfl⟩, ?_⟩; (conv => whnf)
          refine ⟨_, laid_map (f := DStored.enc) (fun _ => rfl) (l.drop i), rfl, by simp [chunk], rfl, by simp [maxLen, chunk]; omega, by simp [chunk]; omega, ?_⟩; (conv => whnf)
          exact ⟨close_row rfl rfl (by simp [chunk]; omega) (by rw [he]; simp [chunk]), trivial⟩
      · omega
  · have hk : inK l f.name = i := inK_eq hi hc fun h => by omega
    refine ⟨by decide, by simp, by simp; omega, (l.take i).map DStored.enc, by simp [List.map_take], ?_⟩; (conv => whnf)
    refine ⟨true, _, ⟨rfl, rfl, rfl⟩, ?_⟩; (conv => whnf)
    refine ⟨_, laid_map (f := DStored.enc) (fun _ => rfl) (l.take i), rfl, rfl, rfl, by simp [maxLen, chunk]; omega, by simp [chunk]; omega, ?_⟩; (conv => whnf)
    refine ⟨true, [f.enc], ⟨rfl, by simp [chunk], rfl, by simp [chunk]; rfl⟩, ?_⟩; (conv => whnf)
    refine ⟨[f.enc], laid_map (f := DStored.enc) (fun _ => rfl) [f], rfl, by simp [chunk], rfl, by simp [maxLen, chunk]; omega, by simp [chunk]; omega, ?_⟩; (conv => whnf)
    (split <;> rename_i h3 <;> (try simp only [decide_eq_true_eq, decide_eq_false_iff_not, Bool.not_eq_true', Bool.not_eq_false', Bool.not_eq_true, Bool.not_eq_false, List.length_map] at h3) <;> conv => whnf)
    · omega
    have he : insL l f = l.take i ++ [f] ++ l.drop i := by
      unfold insL
      rw [hk, if_neg (by simp only [isAt, List.getElem?_eq_none (show l.length ≤ i by omega)]; decide)]
      rfl
    refine ⟨by simp, by simp; omega, by simp, (l.drop i).map DStored.enc, by simp only [List.map_drop]; exact (List.take_of_length_le (by simp)).symm, ?_⟩; (conv => whnf)
    refine ⟨true, _, ⟨rfl, rfl, rfl⟩, ?_⟩; (conv => whnf)
    refine ⟨_, laid_map (f := DStored.enc) (fun _ => rfl) (l.drop i), rfl, by simp [chunk], rfl, by simp [maxLen, chunk]; omega, by simp [chunk]; omega, ?_⟩; (conv => whnf)
    exact ⟨close_row rfl rfl (by simp [chunk]; omega) (by rw [he]; simp [chunk]), trivial⟩
end Go.Proofs.Ytlijeincckbdaaa
