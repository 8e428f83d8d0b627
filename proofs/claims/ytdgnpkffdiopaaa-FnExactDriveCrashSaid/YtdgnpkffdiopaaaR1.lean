/- What a reading of a drive tells. -/
import Derived.Test.YtdgnpkffdiopaaaOp
import Derived.Test.YtdgnpkffdiopaaaDt
import Derived.Test.YtdgnpkffdiopaaaLa
namespace Go.Proofs.Ytdgnpkffdiopaaa
open Go.RowKit
set_option linter.unusedSimpArgs false
set_option linter.unusedVariables false
theorem opInt : Opens Try.prog 2 kInt (fun n => -9223372036854775808 ≤ n ∧ n ≤ 9223372036854775807) := opens_int Try.underlying2
theorem opString : Opens Try.prog 9 kStr (fun s => s.size ≤ 9223372036854775807) := opens_str Try.underlying9
theorem cellsInt : Try.prog.cellsOf 2 = 1 := by kernel_rfl
theorem cellsString : Try.prog.cellsOf 9 = 1 := by kernel_rfl
theorem cellsStored : Try.prog.cellsOf 90 = 3 := by kernel_rfl
theorem cellsDrive : Try.prog.cellsOf 24 = 2 := by kernel_rfl
theorem cellsStoredS : Try.prog.cellsOf 22 = 1 := by kernel_rfl
theorem opStored : Opens Try.prog 90 kStored okStored := fun H enc w spare held fuel cs x h => by
  obtain ⟨hl, hf⟩ := opens_fields Try.underlying90 cellsStored h
  obtain ⟨n0, y0, h0⟩ := hf 0 _ _ _ rfl cellsString
  obtain ⟨n1, y1, h1⟩ := hf 1 _ _ _ rfl cellsString
  obtain ⟨n2, y2, h2⟩ := hf 2 _ _ _ rfl cellsInt
  obtain ⟨x0, c0, o0⟩ := opString _ _ _ _ _ _ _ _ h0
  obtain ⟨x1, c1, o1⟩ := opString _ _ _ _ _ _ _ _ h1
  obtain ⟨x2, c2, o2⟩ := opInt _ _ _ _ _ _ _ _ h2
  match cs, hl with
  | [a0, a1, a2], _ =>
    have e0 : [a0] = [_] := c0
    have e1 : [a1] = [_] := c1
    have e2 : [a2] = [_] := c2
    cases e0; cases e1; cases e2
    exact ⟨⟨x0, x1, x2⟩, rfl, o0, o1⟩
theorem opStoredS : Opens Try.prog 22 (kSl kStored 90) (fun xs => ∀ x ∈ xs, okStored x) := opens_slice Try.underlying22 cellsStored opStored
theorem opInt64S : Opens Try.prog 34 (kSl kInt 2) (fun xs => ∀ x ∈ xs, -9223372036854775808 ≤ x ∧ x ≤ 9223372036854775807) := opens_slice Try.underlying34 cellsInt opInt
theorem opDrive : Opens Try.prog 24 kDrive okDrive := fun H enc w spare held fuel cs x h => by
  obtain ⟨hl, hf⟩ := opens_fields Try.underlying24 cellsDrive h
  obtain ⟨n0, y0, h0⟩ := hf 0 _ _ _ rfl cellsStoredS
  obtain ⟨n1, y1, h1⟩ := hf 1 _ _ _ rfl cellsInt
  obtain ⟨x0, c0, o0⟩ := opStoredS _ _ _ _ _ _ _ _ h0
  obtain ⟨x1, c1, o1⟩ := opInt _ _ _ _ _ _ _ _ h1
  obtain ⟨A0, d0, c0, r0⟩ := c0
  match cs, hl with
  | [a0, a1], _ =>
    have e0 : [a0] = [_] := c0
    have e1 : [a1] = [_] := c1
    cases e0; cases e1
    exact ⟨⟨x0, x1⟩, ⟨_, _, rfl, ⟨_, _, rfl, r0⟩, rfl⟩, o0⟩
end Go.Proofs.Ytdgnpkffdiopaaa
