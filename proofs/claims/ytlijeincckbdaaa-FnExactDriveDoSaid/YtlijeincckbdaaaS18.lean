/- Contracts (reference): a file taken out of a list. -/
import Derived.Test.YtlijeincckbdaaaS16
import Derived.Test.YtlijeincckbdaaaOd
namespace Go.Proofs.Ytlijeincckbdaaa
open Go.RowKit
set_option linter.unusedSimpArgs false
set_option linter.unusedVariables false
set_option maxRecDepth 100000
set_option maxHeartbeats 4000000
theorem l08Out_c (l : List DStored) (hl : l.length ≤ 4294967296) (i : Nat) (hi : i < l.length) : Fun1 Try.prog 193 [.one (.row true 3 (l.map DStored.enc)), .one (.lit (.int .i64 i))] (.one (.row true 3 ((cutL l i).map DStored.enc))) := by
  refine fun1_of_vc (E := tbO193) (tbF_ok _) mix (fn := Try.f193) Try.func193 rfl (by kernel_rfl) (by kernel_rfl) (by simp [Try.f193]) (by show AV.nb (4 + 1) _ = true; exact nb_map (n := 4) (fun y => DStored.enc_nbn 4 y) _) ?_
  (conv => whnf)
  refine ⟨by decide, by simp, by simp; omega, (l.take i).map DStored.enc, by simp [List.map_take], ?_⟩; (conv => whnf)
  refine ⟨((i + 1 : Nat) : Int), by rw [← wrap64_id] <;> omega, ?_⟩; (conv => whnf)
  refine ⟨by simp; omega, by simp; omega, by simp, (l.drop (i + 1)).map DStored.enc, by simp only [List.map_drop]; exact (List.take_of_length_le (by simp)).symm, ?_⟩; (conv => whnf)
  refine ⟨true, _, ⟨rfl, rfl, rfl⟩, ?_⟩; (conv => whnf)
  refine ⟨_, laid_map (f := DStored.enc) (fun _ => rfl) (l.take i), rfl, rfl, rfl, by simp [maxLen, chunk]; omega, by simp [chunk]; omega, ?_⟩; (conv => whnf)
  refine ⟨true, _, ⟨rfl, rfl, rfl⟩, ?_⟩; (conv => whnf)
  refine ⟨_, laid_map (f := DStored.enc) (fun _ => rfl) (l.drop (i + 1)), rfl, by simp [chunk], rfl, by simp [maxLen, chunk]; omega, by simp [chunk]; omega, ?_⟩; (conv => whnf)
  exact ⟨close_row rfl rfl (by simp [chunk]) (by simp [chunk, cutL]), trivial⟩
end Go.Proofs.Ytlijeincckbdaaa
