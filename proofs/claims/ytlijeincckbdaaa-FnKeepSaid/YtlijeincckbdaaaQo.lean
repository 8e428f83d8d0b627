/- What a reading of an argument of each type tells. -/
import Derived.Test.YtlijeincckbdaaaQd
import Derived.Test.YtlijeincckbdaaaQe
import Derived.Test.YtlijeincckbdaaaChecked
import Derived.KernelRfl
namespace Go.Proofs.Ytlijeincckbdaaa
open Go.RowKit
set_option linter.unusedSimpArgs false
set_option linter.unusedVariables false
theorem cellsString : Try.prog.cellsOf 9 = 1 := by kernel_rfl
theorem opString : OpensA Try.prog 9 (fun s : ByteArray => [.lit (.string s)]) (fun x : ByteArray => x.size ≤ 9223372036854775807) := opensA_str Try.underlying9
theorem cellsInt64 : Try.prog.cellsOf 2 = 1 := by kernel_rfl
theorem opInt64 : OpensA Try.prog 2 (fun n : Int => [.lit (.int .i64 n)]) (fun x : Int => inI x) := opensA_int Try.underlying2
theorem cellsStored : Try.prog.cellsOf 201 = 3 := by kernel_rfl
theorem opStored : OpensA Try.prog 201 DStored.enc (fun x : DStored => x.it) := fun H enc w spare held fuel cs x h => by
  obtain ⟨hl, hf⟩ := opensA_fields Try.underlying201 cellsStored h
  obtain ⟨n0, y0, h0⟩ := hf 0 _ _ _ rfl cellsString
  obtain ⟨n1, y1, h1⟩ := hf 1 _ _ _ rfl cellsString
  obtain ⟨n2, y2, h2⟩ := hf 2 _ _ _ rfl cellsInt64
  obtain ⟨x0, c0, o0⟩ := opString _ _ _ _ _ _ _ _ h0
  obtain ⟨x1, c1, o1⟩ := opString _ _ _ _ _ _ _ _ h1
  obtain ⟨x2, c2, o2⟩ := opInt64 _ _ _ _ _ _ _ _ h2
  match cs, hl with
  | [a0, a1, a2], _ =>
    exact ⟨⟨x0, x1, x2⟩, ⟨c0.1, c1.1, c2.1, trivial⟩, o0, o1, o2⟩
theorem cellsStoredS : Try.prog.cellsOf 22 = 1 := by kernel_rfl
theorem opStoredS : OpensA Try.prog 22 (fun xs : List DStored => [.row true 3 (xs.map DStored.enc)]) (fun x : List DStored => x.length ≤ 9223372036854775807 ∧ ∀ y ∈ x, y.it) := opensA_slice Try.underlying22 cellsStored (by decide) (fun _ => rfl) (fun _ => rfl) opStored
theorem cellsDrive : Try.prog.cellsOf 24 = 2 := by kernel_rfl
theorem opDrive : OpensA Try.prog 24 DDrive.enc (fun x : DDrive => x.it) := fun H enc w spare held fuel cs x h => by
  obtain ⟨hl, hf⟩ := opensA_fields Try.underlying24 cellsDrive h
  obtain ⟨n0, y0, h0⟩ := hf 0 _ _ _ rfl cellsStoredS
  obtain ⟨n1, y1, h1⟩ := hf 1 _ _ _ rfl cellsInt64
  obtain ⟨x0, c0, o0⟩ := opStoredS _ _ _ _ _ _ _ _ h0
  obtain ⟨x1, c1, o1⟩ := opInt64 _ _ _ _ _ _ _ _ h1
  match cs, hl with
  | [a0, a1], _ =>
    exact ⟨⟨x0, x1⟩, ⟨c0.1, c1.1, trivial⟩, o0, o1⟩
theorem cellsDriveS : Try.prog.cellsOf 34 = 1 := by kernel_rfl
theorem opDriveS : OpensA Try.prog 34 (fun xs : List DDrive => [.row true 2 (xs.map DDrive.enc)]) (fun x : List DDrive => x.length ≤ 9223372036854775807 ∧ ∀ y ∈ x, y.it) := opensA_slice Try.underlying34 cellsDrive (by decide) (fun _ => rfl) (fun _ => rfl) opDrive
theorem cellsArray : Try.prog.cellsOf 36 = 3 := by kernel_rfl
theorem opArray : OpensA Try.prog 36 DArray.enc (fun x : DArray => x.it) := fun H enc w spare held fuel cs x h => by
  obtain ⟨hl, hf⟩ := opensA_fields Try.underlying36 cellsArray h
  obtain ⟨n0, y0, h0⟩ := hf 0 _ _ _ rfl cellsInt64
  obtain ⟨n1, y1, h1⟩ := hf 1 _ _ _ rfl cellsInt64
  obtain ⟨n2, y2, h2⟩ := hf 2 _ _ _ rfl cellsDriveS
  obtain ⟨x0, c0, o0⟩ := opInt64 _ _ _ _ _ _ _ _ h0
  obtain ⟨x1, c1, o1⟩ := opInt64 _ _ _ _ _ _ _ _ h1
  obtain ⟨x2, c2, o2⟩ := opDriveS _ _ _ _ _ _ _ _ h2
  match cs, hl with
  | [a0, a1, a2], _ =>
    exact ⟨⟨x0, x1, x2⟩, ⟨c0.1, c1.1, c2.1, trivial⟩, o0, o1, o2⟩
theorem cellsCutting : Try.prog.cellsOf 71 = 3 := by kernel_rfl
theorem opCutting : OpensA Try.prog 71 DCutting.enc (fun x : DCutting => x.it) := fun H enc w spare held fuel cs x h => by
  obtain ⟨hl, hf⟩ := opensA_fields Try.underlying71 cellsCutting h
  obtain ⟨n0, y0, h0⟩ := hf 0 _ _ _ rfl cellsInt64
  obtain ⟨n1, y1, h1⟩ := hf 1 _ _ _ rfl cellsInt64
  obtain ⟨n2, y2, h2⟩ := hf 2 _ _ _ rfl cellsInt64
  obtain ⟨x0, c0, o0⟩ := opInt64 _ _ _ _ _ _ _ _ h0
  obtain ⟨x1, c1, o1⟩ := opInt64 _ _ _ _ _ _ _ _ h1
  obtain ⟨x2, c2, o2⟩ := opInt64 _ _ _ _ _ _ _ _ h2
  match cs, hl with
  | [a0, a1, a2], _ =>
    exact ⟨⟨x0, x1, x2⟩, ⟨c0.1, c1.1, c2.1, trivial⟩, o0, o1, o2⟩
theorem cellsOp : Try.prog.cellsOf 85 = 4 := by kernel_rfl
theorem opOp : OpensA Try.prog 85 DOp.enc (fun x : DOp => x.it) := fun H enc w spare held fuel cs x h => by
  obtain ⟨hl, hf⟩ := opensA_fields Try.underlying85 cellsOp h
  obtain ⟨n0, y0, h0⟩ := hf 0 _ _ _ rfl cellsInt64
  obtain ⟨n1, y1, h1⟩ := hf 1 _ _ _ rfl cellsString
  obtain ⟨n2, y2, h2⟩ := hf 2 _ _ _ rfl cellsString
  obtain ⟨n3, y3, h3⟩ := hf 3 _ _ _ rfl cellsString
  obtain ⟨x0, c0, o0⟩ := opInt64 _ _ _ _ _ _ _ _ h0
  obtain ⟨x1, c1, o1⟩ := opString _ _ _ _ _ _ _ _ h1
  obtain ⟨x2, c2, o2⟩ := opString _ _ _ _ _ _ _ _ h2
  obtain ⟨x3, c3, o3⟩ := opString _ _ _ _ _ _ _ _ h3
  match cs, hl with
  | [a0, a1, a2, a3], _ =>
    exact ⟨⟨x0, x1, x2, x3⟩, ⟨c0.1, c1.1, c2.1, c3.1, trivial⟩, o0, o1, o2, o3⟩
theorem cellsStep : Try.prog.cellsOf 193 = 5 := by kernel_rfl
theorem opStep : OpensA Try.prog 193 DStep.enc (fun x : DStep => x.it) := fun H enc w spare held fuel cs x h => by
  obtain ⟨hl, hf⟩ := opensA_fields Try.underlying193 cellsStep h
  obtain ⟨n0, y0, h0⟩ := hf 0 _ _ _ rfl cellsInt64
  obtain ⟨n1, y1, h1⟩ := hf 1 _ _ _ rfl cellsOp
  obtain ⟨x0, c0, o0⟩ := opInt64 _ _ _ _ _ _ _ _ h0
  obtain ⟨x1, c1, o1⟩ := opOp _ _ _ _ _ _ _ _ h1
  match cs, hl with
  | [a0, a1, a2, a3, a4], _ =>
    exact ⟨⟨x0, x1⟩, ⟨c0.1, c1.1, c1.2.1, c1.2.2.1, c1.2.2.2.1, trivial⟩, o0, o1⟩
theorem cellsStepS : Try.prog.cellsOf 120 = 1 := by kernel_rfl
theorem opStepS : OpensA Try.prog 120 (fun xs : List DStep => [.row true 5 (xs.map DStep.enc)]) (fun x : List DStep => x.length ≤ 9223372036854775807 ∧ ∀ y ∈ x, y.it) := opensA_slice Try.underlying120 cellsStep (by decide) (fun _ => rfl) (fun _ => rfl) opStep
theorem cellsClient : Try.prog.cellsOf 226 = 5 := by kernel_rfl
theorem opClient : OpensA Try.prog 226 DClient.enc (fun x : DClient => x.it) := fun H enc w spare held fuel cs x h => by
  obtain ⟨hl, hf⟩ := opensA_fields Try.underlying226 cellsClient h
  obtain ⟨n0, y0, h0⟩ := hf 0 _ _ _ rfl cellsInt64
  obtain ⟨n1, y1, h1⟩ := hf 1 _ _ _ rfl cellsString
  obtain ⟨n2, y2, h2⟩ := hf 2 _ _ _ rfl cellsStepS
  obtain ⟨n3, y3, h3⟩ := hf 3 _ _ _ rfl cellsInt64
  obtain ⟨n4, y4, h4⟩ := hf 4 _ _ _ rfl cellsInt64
  obtain ⟨x0, c0, o0⟩ := opInt64 _ _ _ _ _ _ _ _ h0
  obtain ⟨x1, c1, o1⟩ := opString _ _ _ _ _ _ _ _ h1
  obtain ⟨x2, c2, o2⟩ := opStepS _ _ _ _ _ _ _ _ h2
  obtain ⟨x3, c3, o3⟩ := opInt64 _ _ _ _ _ _ _ _ h3
  obtain ⟨x4, c4, o4⟩ := opInt64 _ _ _ _ _ _ _ _ h4
  match cs, hl with
  | [a0, a1, a2, a3, a4], _ =>
    exact ⟨⟨x0, x1, x2, x3, x4⟩, ⟨c0.1, c1.1, c2.1, c3.1, c4.1, trivial⟩, o0, o1, o2, o3, o4⟩
theorem cellsClientS : Try.prog.cellsOf 72 = 1 := by kernel_rfl
theorem opClientS : OpensA Try.prog 72 (fun xs : List DClient => [.row true 5 (xs.map DClient.enc)]) (fun x : List DClient => x.length ≤ 9223372036854775807 ∧ ∀ y ∈ x, y.it) := opensA_slice Try.underlying72 cellsClient (by decide) (fun _ => rfl) (fun _ => rfl) opClient
theorem cellsWorld : Try.prog.cellsOf 74 = 8 := by kernel_rfl
theorem opWorld : OpensA Try.prog 74 DWorld.enc (fun x : DWorld => x.it) := fun H enc w spare held fuel cs x h => by
  obtain ⟨hl, hf⟩ := opensA_fields Try.underlying74 cellsWorld h
  obtain ⟨n0, y0, h0⟩ := hf 0 _ _ _ rfl cellsArray
  obtain ⟨n1, y1, h1⟩ := hf 1 _ _ _ rfl cellsCutting
  obtain ⟨n2, y2, h2⟩ := hf 2 _ _ _ rfl cellsInt64
  obtain ⟨n3, y3, h3⟩ := hf 3 _ _ _ rfl cellsClientS
  obtain ⟨x0, c0, o0⟩ := opArray _ _ _ _ _ _ _ _ h0
  obtain ⟨x1, c1, o1⟩ := opCutting _ _ _ _ _ _ _ _ h1
  obtain ⟨x2, c2, o2⟩ := opInt64 _ _ _ _ _ _ _ _ h2
  obtain ⟨x3, c3, o3⟩ := opClientS _ _ _ _ _ _ _ _ h3
  match cs, hl with
  | [a0, a1, a2, a3, a4, a5, a6, a7], _ =>
    exact ⟨⟨x0, x1, x2, x3⟩, ⟨c0.1, c0.2.1, c0.2.2.1, c1.1, c1.2.1, c1.2.2.1, c2.1, c3.1, trivial⟩, o0, o1, o2, o3⟩
theorem cellsPolicy : Try.prog.cellsOf 98 = 4 := by kernel_rfl
theorem opPolicy : OpensA Try.prog 98 DPolicy.enc (fun x : DPolicy => x.it) := fun H enc w spare held fuel cs x h => by
  obtain ⟨hl, hf⟩ := opensA_fields Try.underlying98 cellsPolicy h
  obtain ⟨n0, y0, h0⟩ := hf 0 _ _ _ rfl cellsInt64
  obtain ⟨n1, y1, h1⟩ := hf 1 _ _ _ rfl cellsInt64
  obtain ⟨n2, y2, h2⟩ := hf 2 _ _ _ rfl cellsInt64
  obtain ⟨n3, y3, h3⟩ := hf 3 _ _ _ rfl cellsInt64
  obtain ⟨x0, c0, o0⟩ := opInt64 _ _ _ _ _ _ _ _ h0
  obtain ⟨x1, c1, o1⟩ := opInt64 _ _ _ _ _ _ _ _ h1
  obtain ⟨x2, c2, o2⟩ := opInt64 _ _ _ _ _ _ _ _ h2
  obtain ⟨x3, c3, o3⟩ := opInt64 _ _ _ _ _ _ _ _ h3
  match cs, hl with
  | [a0, a1, a2, a3], _ =>
    exact ⟨⟨x0, x1, x2, x3⟩, ⟨c0.1, c1.1, c2.1, c3.1, trivial⟩, o0, o1, o2, o3⟩
theorem cellsSnap : Try.prog.cellsOf 184 = 3 := by kernel_rfl
theorem opSnap : OpensA Try.prog 184 DSnap.enc (fun x : DSnap => x.it) := fun H enc w spare held fuel cs x h => by
  obtain ⟨hl, hf⟩ := opensA_fields Try.underlying184 cellsSnap h
  obtain ⟨n0, y0, h0⟩ := hf 0 _ _ _ rfl cellsString
  obtain ⟨n1, y1, h1⟩ := hf 1 _ _ _ rfl cellsInt64
  obtain ⟨n2, y2, h2⟩ := hf 2 _ _ _ rfl cellsString
  obtain ⟨x0, c0, o0⟩ := opString _ _ _ _ _ _ _ _ h0
  obtain ⟨x1, c1, o1⟩ := opInt64 _ _ _ _ _ _ _ _ h1
  obtain ⟨x2, c2, o2⟩ := opString _ _ _ _ _ _ _ _ h2
  match cs, hl with
  | [a0, a1, a2], _ =>
    exact ⟨⟨x0, x1, x2⟩, ⟨c0.1, c1.1, c2.1, trivial⟩, o0, o1, o2⟩
theorem cellsSnapS : Try.prog.cellsOf 99 = 1 := by kernel_rfl
theorem opSnapS : OpensA Try.prog 99 (fun xs : List DSnap => [.row true 3 (xs.map DSnap.enc)]) (fun x : List DSnap => x.length ≤ 9223372036854775807 ∧ ∀ y ∈ x, y.it) := opensA_slice Try.underlying99 cellsSnap (by decide) (fun _ => rfl) (fun _ => rfl) opSnap
end Go.Proofs.Ytlijeincckbdaaa
