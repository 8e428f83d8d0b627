/-
  No cell of these rows narrows 'for every input' (looked for: loops, veiled, ifaces, maps, wideKeys, modest, calm, conditions, laid).
  DERIVED. THE GIVEN ROWS OF THIS SEAT. 12 by the template 'for every input the law returns true; each argument reads behind the call as it read before'; 0 by the template 'total and deterministic' (their statements: YtlijeincckbdaaaTotals.lean).
  GIVEN WITH THE SEED: the statements are not yours to turn. If you find one false, say at which input.
  Laid BY PROGRAM, IN A SANDBOX (cutbox-rows.mjs): the forced cells as the released guide's own fill.sh prints them over the translation 43fe2e6d076d7f11… (all of the seat's roots in one cut). By AI agents, Wed Nov 11 2026. No macro, syntax, notation, axiom, sorry.
-/
import Derived.Test.YtlijeincckbdaaaChecked
import GoSem.Claim
import GoSem.ClaimJoined
import GoSem.ClaimMapViews
import Derived.JoinedTies
import Derived.KernelRfl
namespace Go.Proofs.Ytlijeincckbdaaa
/- THE CELL 'sum', in the pinned program and in every row, IS THE sha256 OF THE DUMP (.gsa) THAT YtlijeincckbdaaaProg.lean LOADS. Nothing in Lean hashes anything: it is a label: what it is worth is what the hold of that sum in a sandbox is worth. -/
noncomputable def Try.pinned : Pinned := { name := "ytlijeincckbdaaa", sum := "43fe2e6d076d7f11b5da8cbdd28796e25b1f0a5134a33355863140a4e1b86255", checked := Try.checked }
namespace Rows
def none {H : Type} : Left H := { results := [], args := [] }

/-- 'laws.FnExactDriveRot': WHATEVER THE INPUT: true; the input reads as it did. -/
def fnExactDriveRotSpec : ChangeSpec := { name := "fnExactDriveRot", fn := fun _ => fun
  | [d1, d2, d3, d4] => { results := [.lit (.bool true)], args := [d1, d2, d3, d4] }
  | _ => none }
def fnExactDriveRotRow : OpenClaim := { program := "ytlijeincckbdaaa", sum := "43fe2e6d076d7f11b5da8cbdd28796e25b1f0a5134a33355863140a4e1b86255", func := "loop.example/g00259/laws.FnExactDriveRot", spec := "fnExactDriveRot", inPlace := ["internal/bytealg.abigen_runtime_cmpstring"], unfollowed := true, recurses := true, apart := false }
def FnExactDriveRotSaid : Prop := fnExactDriveRotRow.holds Try.pinned (OpenSpec.ofChange fnExactDriveRotSpec)

/-- ITS FALSE NEIGHBOUR: 'it returns false'. Refute it at one input. -/
def fnExactDriveRotWrong : ChangeSpec := { name := "fnExactDriveRot", fn := fun _ => fun
  | [d1, d2, d3, d4] => { results := [.lit (.bool false)], args := [d1, d2, d3, d4] }
  | _ => none }
def FnExactDriveRotWrongFalsely : Prop := fnExactDriveRotRow.holds Try.pinned (OpenSpec.ofChange fnExactDriveRotWrong)

/-- 'laws.FnExactCleanSteps': WHATEVER THE INPUT: true; the input reads as it did. -/
def fnExactCleanStepsSpec : ChangeSpec := { name := "fnExactCleanSteps", fn := fun _ => fun
  | [d] => { results := [.lit (.bool true)], args := [d] }
  | _ => none }
def fnExactCleanStepsRow : OpenClaim := { program := "ytlijeincckbdaaa", sum := "43fe2e6d076d7f11b5da8cbdd28796e25b1f0a5134a33355863140a4e1b86255", func := "loop.example/g00259/laws.FnExactCleanSteps", spec := "fnExactCleanSteps", unfollowed := true, recurses := true, apart := false }
def FnExactCleanStepsSaid : Prop := fnExactCleanStepsRow.holds Try.pinned (OpenSpec.ofChange fnExactCleanStepsSpec)

/-- ITS FALSE NEIGHBOUR: 'it returns false'. Refute it at one input. -/
def fnExactCleanStepsWrong : ChangeSpec := { name := "fnExactCleanSteps", fn := fun _ => fun
  | [d] => { results := [.lit (.bool false)], args := [d] }
  | _ => none }
def FnExactCleanStepsWrongFalsely : Prop := fnExactCleanStepsRow.holds Try.pinned (OpenSpec.ofChange fnExactCleanStepsWrong)

/-- 'laws.FnExactRemoveSteps': WHATEVER THE INPUT: true; the input reads as it did. -/
def fnExactRemoveStepsSpec : ChangeSpec := { name := "fnExactRemoveSteps", fn := fun _ => fun
  | [d1, d2] => { results := [.lit (.bool true)], args := [d1, d2] }
  | _ => none }
def fnExactRemoveStepsRow : OpenClaim := { program := "ytlijeincckbdaaa", sum := "43fe2e6d076d7f11b5da8cbdd28796e25b1f0a5134a33355863140a4e1b86255", func := "loop.example/g00259/laws.FnExactRemoveSteps", spec := "fnExactRemoveSteps", inPlace := ["internal/bytealg.abigen_runtime_cmpstring"], unfollowed := true, recurses := true, apart := false }
def FnExactRemoveStepsSaid : Prop := fnExactRemoveStepsRow.holds Try.pinned (OpenSpec.ofChange fnExactRemoveStepsSpec)

/-- ITS FALSE NEIGHBOUR: 'it returns false'. Refute it at one input. -/
def fnExactRemoveStepsWrong : ChangeSpec := { name := "fnExactRemoveSteps", fn := fun _ => fun
  | [d1, d2] => { results := [.lit (.bool false)], args := [d1, d2] }
  | _ => none }
def FnExactRemoveStepsWrongFalsely : Prop := fnExactRemoveStepsRow.holds Try.pinned (OpenSpec.ofChange fnExactRemoveStepsWrong)

/-- 'laws.FnDrive': WHATEVER THE INPUT: true; the input reads as it did. -/
def fnDriveSpec : ChangeSpec := { name := "fnDrive", fn := fun _ => fun
  | [d1, d2] => { results := [.lit (.bool true)], args := [d1, d2] }
  | _ => none }
def fnDriveRow : OpenClaim := { program := "ytlijeincckbdaaa", sum := "43fe2e6d076d7f11b5da8cbdd28796e25b1f0a5134a33355863140a4e1b86255", func := "loop.example/g00259/laws.FnDrive", spec := "fnDrive", inPlace := ["internal/bytealg.abigen_runtime_cmpstring", "slices.overlaps[loop.example/g00259/impl.Stored]"], unfollowed := true, recurses := true, apart := false }
def FnDriveSaid : Prop := fnDriveRow.holds Try.pinned (OpenSpec.ofChange fnDriveSpec)

/-- ITS FALSE NEIGHBOUR: 'it returns false'. Refute it at one input. -/
def fnDriveWrong : ChangeSpec := { name := "fnDrive", fn := fun _ => fun
  | [d1, d2] => { results := [.lit (.bool false)], args := [d1, d2] }
  | _ => none }
def FnDriveWrongFalsely : Prop := fnDriveRow.holds Try.pinned (OpenSpec.ofChange fnDriveWrong)

/-- 'laws.FnExactWorldRight': WHATEVER THE INPUT: true; the input reads as it did. -/
def fnExactWorldRightSpec : ChangeSpec := { name := "fnExactWorldRight", fn := fun _ => fun
  | [d] => { results := [.lit (.bool true)], args := [d] }
  | _ => none }
def fnExactWorldRightRow : OpenClaim := { program := "ytlijeincckbdaaa", sum := "43fe2e6d076d7f11b5da8cbdd28796e25b1f0a5134a33355863140a4e1b86255", func := "loop.example/g00259/laws.FnExactWorldRight", spec := "fnExactWorldRight", unfollowed := true, recurses := true, apart := false }
def FnExactWorldRightSaid : Prop := fnExactWorldRightRow.holds Try.pinned (OpenSpec.ofChange fnExactWorldRightSpec)

/-- ITS FALSE NEIGHBOUR: 'it returns false'. Refute it at one input. -/
def fnExactWorldRightWrong : ChangeSpec := { name := "fnExactWorldRight", fn := fun _ => fun
  | [d] => { results := [.lit (.bool false)], args := [d] }
  | _ => none }
def FnExactWorldRightWrongFalsely : Prop := fnExactWorldRightRow.holds Try.pinned (OpenSpec.ofChange fnExactWorldRightWrong)

/-- 'laws.FnExactBusy': WHATEVER THE INPUT: true; the input reads as it did. -/
def fnExactBusySpec : ChangeSpec := { name := "fnExactBusy", fn := fun _ => fun
  | [d] => { results := [.lit (.bool true)], args := [d] }
  | _ => none }
def fnExactBusyRow : OpenClaim := { program := "ytlijeincckbdaaa", sum := "43fe2e6d076d7f11b5da8cbdd28796e25b1f0a5134a33355863140a4e1b86255", func := "loop.example/g00259/laws.FnExactBusy", spec := "fnExactBusy", unfollowed := true, recurses := true, apart := false }
def FnExactBusySaid : Prop := fnExactBusyRow.holds Try.pinned (OpenSpec.ofChange fnExactBusySpec)

/-- ITS FALSE NEIGHBOUR: 'it returns false'. Refute it at one input. -/
def fnExactBusyWrong : ChangeSpec := { name := "fnExactBusy", fn := fun _ => fun
  | [d] => { results := [.lit (.bool false)], args := [d] }
  | _ => none }
def FnExactBusyWrongFalsely : Prop := fnExactBusyRow.holds Try.pinned (OpenSpec.ofChange fnExactBusyWrong)

/-- 'laws.FnExactDriveDo': WHATEVER THE INPUT: true; the input reads as it did. -/
def fnExactDriveDoSpec : ChangeSpec := { name := "fnExactDriveDo", fn := fun _ => fun
  | [d1, d2] => { results := [.lit (.bool true)], args := [d1, d2] }
  | _ => none }
def fnExactDriveDoRow : OpenClaim := { program := "ytlijeincckbdaaa", sum := "43fe2e6d076d7f11b5da8cbdd28796e25b1f0a5134a33355863140a4e1b86255", func := "loop.example/g00259/laws.FnExactDriveDo", spec := "fnExactDriveDo", inPlace := ["internal/bytealg.abigen_runtime_cmpstring", "slices.overlaps[loop.example/g00259/impl.Stored]"], unfollowed := true, recurses := true, apart := false }
def FnExactDriveDoSaid : Prop := fnExactDriveDoRow.holds Try.pinned (OpenSpec.ofChange fnExactDriveDoSpec)

/-- ITS FALSE NEIGHBOUR: 'it returns false'. Refute it at one input. -/
def fnExactDriveDoWrong : ChangeSpec := { name := "fnExactDriveDo", fn := fun _ => fun
  | [d1, d2] => { results := [.lit (.bool false)], args := [d1, d2] }
  | _ => none }
def FnExactDriveDoWrongFalsely : Prop := fnExactDriveDoRow.holds Try.pinned (OpenSpec.ofChange fnExactDriveDoWrong)

/-- 'laws.FnExactLocked': WHATEVER THE INPUT: true; the input reads as it did. -/
def fnExactLockedSpec : ChangeSpec := { name := "fnExactLocked", fn := fun _ => fun
  | [d1, d2, d3] => { results := [.lit (.bool true)], args := [d1, d2, d3] }
  | _ => none }
def fnExactLockedRow : OpenClaim := { program := "ytlijeincckbdaaa", sum := "43fe2e6d076d7f11b5da8cbdd28796e25b1f0a5134a33355863140a4e1b86255", func := "loop.example/g00259/laws.FnExactLocked", spec := "fnExactLocked", unfollowed := true, recurses := true, apart := false }
def FnExactLockedSaid : Prop := fnExactLockedRow.holds Try.pinned (OpenSpec.ofChange fnExactLockedSpec)

/-- ITS FALSE NEIGHBOUR: 'it returns false'. Refute it at one input. -/
def fnExactLockedWrong : ChangeSpec := { name := "fnExactLocked", fn := fun _ => fun
  | [d1, d2, d3] => { results := [.lit (.bool false)], args := [d1, d2, d3] }
  | _ => none }
def FnExactLockedWrongFalsely : Prop := fnExactLockedRow.holds Try.pinned (OpenSpec.ofChange fnExactLockedWrong)

/-- 'laws.FnExactWorldNew': WHATEVER THE INPUT: true; the input reads as it did. -/
def fnExactWorldNewSpec : ChangeSpec := { name := "fnExactWorldNew", fn := fun _ => fun
  | [d1, d2, d3] => { results := [.lit (.bool true)], args := [d1, d2, d3] }
  | _ => none }
def fnExactWorldNewRow : OpenClaim := { program := "ytlijeincckbdaaa", sum := "43fe2e6d076d7f11b5da8cbdd28796e25b1f0a5134a33355863140a4e1b86255", func := "loop.example/g00259/laws.FnExactWorldNew", spec := "fnExactWorldNew", unfollowed := true, recurses := true, apart := false }
def FnExactWorldNewSaid : Prop := fnExactWorldNewRow.holds Try.pinned (OpenSpec.ofChange fnExactWorldNewSpec)

/-- ITS FALSE NEIGHBOUR: 'it returns false'. Refute it at one input. -/
def fnExactWorldNewWrong : ChangeSpec := { name := "fnExactWorldNew", fn := fun _ => fun
  | [d1, d2, d3] => { results := [.lit (.bool false)], args := [d1, d2, d3] }
  | _ => none }
def FnExactWorldNewWrongFalsely : Prop := fnExactWorldNewRow.holds Try.pinned (OpenSpec.ofChange fnExactWorldNewWrong)

/-- 'laws.FnExactForget': WHATEVER THE INPUT: true; the input reads as it did. -/
def fnExactForgetSpec : ChangeSpec := { name := "fnExactForget", fn := fun _ => fun
  | [d1, d2] => { results := [.lit (.bool true)], args := [d1, d2] }
  | _ => none }
def fnExactForgetRow : OpenClaim := { program := "ytlijeincckbdaaa", sum := "43fe2e6d076d7f11b5da8cbdd28796e25b1f0a5134a33355863140a4e1b86255", func := "loop.example/g00259/laws.FnExactForget", spec := "fnExactForget", inPlace := ["internal/bytealg.abigen_runtime_cmpstring"], unfollowed := true, recurses := true, apart := false }
def FnExactForgetSaid : Prop := fnExactForgetRow.holds Try.pinned (OpenSpec.ofChange fnExactForgetSpec)

/-- ITS FALSE NEIGHBOUR: 'it returns false'. Refute it at one input. -/
def fnExactForgetWrong : ChangeSpec := { name := "fnExactForget", fn := fun _ => fun
  | [d1, d2] => { results := [.lit (.bool false)], args := [d1, d2] }
  | _ => none }
def FnExactForgetWrongFalsely : Prop := fnExactForgetRow.holds Try.pinned (OpenSpec.ofChange fnExactForgetWrong)

/-- 'laws.FnKeep': WHATEVER THE INPUT: true; the input reads as it did. -/
def fnKeepSpec : ChangeSpec := { name := "fnKeep", fn := fun _ => fun
  | [d1, d2] => { results := [.lit (.bool true)], args := [d1, d2] }
  | _ => none }
def fnKeepRow : OpenClaim := { program := "ytlijeincckbdaaa", sum := "43fe2e6d076d7f11b5da8cbdd28796e25b1f0a5134a33355863140a4e1b86255", func := "loop.example/g00259/laws.FnKeep", spec := "fnKeep", inPlace := ["internal/bytealg.abigen_runtime_cmpstring"], unfollowed := true, recurses := true, apart := false }
def FnKeepSaid : Prop := fnKeepRow.holds Try.pinned (OpenSpec.ofChange fnKeepSpec)

/-- ITS FALSE NEIGHBOUR: 'it returns false'. Refute it at one input. -/
def fnKeepWrong : ChangeSpec := { name := "fnKeep", fn := fun _ => fun
  | [d1, d2] => { results := [.lit (.bool false)], args := [d1, d2] }
  | _ => none }
def FnKeepWrongFalsely : Prop := fnKeepRow.holds Try.pinned (OpenSpec.ofChange fnKeepWrong)

/-- 'laws.FnExactStepsDo': WHATEVER THE INPUT: true; the input reads as it did. -/
def fnExactStepsDoSpec : ChangeSpec := { name := "fnExactStepsDo", fn := fun _ => fun
  | [d1, d2, d3] => { results := [.lit (.bool true)], args := [d1, d2, d3] }
  | _ => none }
def fnExactStepsDoRow : OpenClaim := { program := "ytlijeincckbdaaa", sum := "43fe2e6d076d7f11b5da8cbdd28796e25b1f0a5134a33355863140a4e1b86255", func := "loop.example/g00259/laws.FnExactStepsDo", spec := "fnExactStepsDo", inPlace := ["internal/bytealg.abigen_runtime_cmpstring", "slices.overlaps[loop.example/g00259/impl.Stored]"], unfollowed := true, recurses := true, apart := false }
def FnExactStepsDoSaid : Prop := fnExactStepsDoRow.holds Try.pinned (OpenSpec.ofChange fnExactStepsDoSpec)

/-- ITS FALSE NEIGHBOUR: 'it returns false'. Refute it at one input. -/
def fnExactStepsDoWrong : ChangeSpec := { name := "fnExactStepsDo", fn := fun _ => fun
  | [d1, d2, d3] => { results := [.lit (.bool false)], args := [d1, d2, d3] }
  | _ => none }
def FnExactStepsDoWrongFalsely : Prop := fnExactStepsDoRow.holds Try.pinned (OpenSpec.ofChange fnExactStepsDoWrong)

/- THE SECOND FORM. 'bulk': how many values and letters a reading holds, each counted each time it is reached (what is shared counts as often as it is met; a slice's spare places count too). A statement '..UptoSaid' is the law's where the arguments, and the package variables that the reading takes, are together of bulk at most 1048576: NARROWER than '..Said'. Prove '..Said' where nothing that the law and all that it calls make is longer than what came in: it says more and counts as full. Else prove '..UptoSaid'. A law counts once. -/
mutual
def uptoBulk {H : Type} : DataW H → Nat
  | .lit (.string bytes) => bytes.length + 1
  | .lit _ => 1
  | .nil => 1
  | .ptr d => uptoBulk d + 1
  | .slice elems spare => uptoBulkAll elems + uptoBulkAll spare + 1
  | .agg parts => uptoBulkAll parts + 1
  | .iface _ d => uptoBulk d + 1
  | .map entries => uptoBulkEntries entries + 1
  | .held _ => 1
def uptoBulkAll {H : Type} : List (DataW H) → Nat
  | [] => 0
  | d :: r => uptoBulk d + uptoBulkAll r
def uptoBulkEntries {H : Type} : List (Lit × DataW H) → Nat
  | [] => 0
  | x :: r => uptoBulkEntry x + uptoBulkEntries r
def uptoBulkEntry {H : Type} : Lit × DataW H → Nat
  | (.string bytes, d) => bytes.length + uptoBulk d + 1
  | (_, d) => uptoBulk d + 1
 end
def uptoSmall : (H : Type) → List (DataW H) → Bool := fun _ ds => decide (uptoBulkAll ds ≤ 1048576)
def OpenSpec.upto (s : _root_.Go.ChangeSpec) : _root_.Go.OpenSpec := { _root_.Go.OpenSpec.ofChange s with cond := some uptoSmall }

/-- 'laws.FnExactDriveRot', WHERE WHAT IT READS IS OF BULK AT MOST 1048576: true; the input reads as it did. -/
def fnExactDriveRotUptoRow : OpenClaim := { program := "ytlijeincckbdaaa", sum := "43fe2e6d076d7f11b5da8cbdd28796e25b1f0a5134a33355863140a4e1b86255", func := "loop.example/g00259/laws.FnExactDriveRot", spec := "fnExactDriveRot", inPlace := ["internal/bytealg.abigen_runtime_cmpstring"], unfollowed := true, recurses := true, apart := false, narrowed := true }
def FnExactDriveRotUptoSaid : Prop := fnExactDriveRotUptoRow.holds Try.pinned (OpenSpec.upto fnExactDriveRotSpec)

/-- 'laws.FnExactCleanSteps', WHERE WHAT IT READS IS OF BULK AT MOST 1048576: true; the input reads as it did. -/
def fnExactCleanStepsUptoRow : OpenClaim := { program := "ytlijeincckbdaaa", sum := "43fe2e6d076d7f11b5da8cbdd28796e25b1f0a5134a33355863140a4e1b86255", func := "loop.example/g00259/laws.FnExactCleanSteps", spec := "fnExactCleanSteps", unfollowed := true, recurses := true, apart := false, narrowed := true }
def FnExactCleanStepsUptoSaid : Prop := fnExactCleanStepsUptoRow.holds Try.pinned (OpenSpec.upto fnExactCleanStepsSpec)

/-- 'laws.FnExactRemoveSteps', WHERE WHAT IT READS IS OF BULK AT MOST 1048576: true; the input reads as it did. -/
def fnExactRemoveStepsUptoRow : OpenClaim := { program := "ytlijeincckbdaaa", sum := "43fe2e6d076d7f11b5da8cbdd28796e25b1f0a5134a33355863140a4e1b86255", func := "loop.example/g00259/laws.FnExactRemoveSteps", spec := "fnExactRemoveSteps", inPlace := ["internal/bytealg.abigen_runtime_cmpstring"], unfollowed := true, recurses := true, apart := false, narrowed := true }
def FnExactRemoveStepsUptoSaid : Prop := fnExactRemoveStepsUptoRow.holds Try.pinned (OpenSpec.upto fnExactRemoveStepsSpec)

/-- 'laws.FnDrive', WHERE WHAT IT READS IS OF BULK AT MOST 1048576: true; the input reads as it did. -/
def fnDriveUptoRow : OpenClaim := { program := "ytlijeincckbdaaa", sum := "43fe2e6d076d7f11b5da8cbdd28796e25b1f0a5134a33355863140a4e1b86255", func := "loop.example/g00259/laws.FnDrive", spec := "fnDrive", inPlace := ["internal/bytealg.abigen_runtime_cmpstring", "slices.overlaps[loop.example/g00259/impl.Stored]"], unfollowed := true, recurses := true, apart := false, narrowed := true }
def FnDriveUptoSaid : Prop := fnDriveUptoRow.holds Try.pinned (OpenSpec.upto fnDriveSpec)

/-- 'laws.FnExactWorldRight', WHERE WHAT IT READS IS OF BULK AT MOST 1048576: true; the input reads as it did. -/
def fnExactWorldRightUptoRow : OpenClaim := { program := "ytlijeincckbdaaa", sum := "43fe2e6d076d7f11b5da8cbdd28796e25b1f0a5134a33355863140a4e1b86255", func := "loop.example/g00259/laws.FnExactWorldRight", spec := "fnExactWorldRight", unfollowed := true, recurses := true, apart := false, narrowed := true }
def FnExactWorldRightUptoSaid : Prop := fnExactWorldRightUptoRow.holds Try.pinned (OpenSpec.upto fnExactWorldRightSpec)

/-- 'laws.FnExactBusy', WHERE WHAT IT READS IS OF BULK AT MOST 1048576: true; the input reads as it did. -/
def fnExactBusyUptoRow : OpenClaim := { program := "ytlijeincckbdaaa", sum := "43fe2e6d076d7f11b5da8cbdd28796e25b1f0a5134a33355863140a4e1b86255", func := "loop.example/g00259/laws.FnExactBusy", spec := "fnExactBusy", unfollowed := true, recurses := true, apart := false, narrowed := true }
def FnExactBusyUptoSaid : Prop := fnExactBusyUptoRow.holds Try.pinned (OpenSpec.upto fnExactBusySpec)

/-- 'laws.FnExactDriveDo', WHERE WHAT IT READS IS OF BULK AT MOST 1048576: true; the input reads as it did. -/
def fnExactDriveDoUptoRow : OpenClaim := { program := "ytlijeincckbdaaa", sum := "43fe2e6d076d7f11b5da8cbdd28796e25b1f0a5134a33355863140a4e1b86255", func := "loop.example/g00259/laws.FnExactDriveDo", spec := "fnExactDriveDo", inPlace := ["internal/bytealg.abigen_runtime_cmpstring", "slices.overlaps[loop.example/g00259/impl.Stored]"], unfollowed := true, recurses := true, apart := false, narrowed := true }
def FnExactDriveDoUptoSaid : Prop := fnExactDriveDoUptoRow.holds Try.pinned (OpenSpec.upto fnExactDriveDoSpec)

/-- 'laws.FnExactLocked', WHERE WHAT IT READS IS OF BULK AT MOST 1048576: true; the input reads as it did. -/
def fnExactLockedUptoRow : OpenClaim := { program := "ytlijeincckbdaaa", sum := "43fe2e6d076d7f11b5da8cbdd28796e25b1f0a5134a33355863140a4e1b86255", func := "loop.example/g00259/laws.FnExactLocked", spec := "fnExactLocked", unfollowed := true, recurses := true, apart := false, narrowed := true }
def FnExactLockedUptoSaid : Prop := fnExactLockedUptoRow.holds Try.pinned (OpenSpec.upto fnExactLockedSpec)

/-- 'laws.FnExactWorldNew', WHERE WHAT IT READS IS OF BULK AT MOST 1048576: true; the input reads as it did. -/
def fnExactWorldNewUptoRow : OpenClaim := { program := "ytlijeincckbdaaa", sum := "43fe2e6d076d7f11b5da8cbdd28796e25b1f0a5134a33355863140a4e1b86255", func := "loop.example/g00259/laws.FnExactWorldNew", spec := "fnExactWorldNew", unfollowed := true, recurses := true, apart := false, narrowed := true }
def FnExactWorldNewUptoSaid : Prop := fnExactWorldNewUptoRow.holds Try.pinned (OpenSpec.upto fnExactWorldNewSpec)

/-- 'laws.FnExactForget', WHERE WHAT IT READS IS OF BULK AT MOST 1048576: true; the input reads as it did. -/
def fnExactForgetUptoRow : OpenClaim := { program := "ytlijeincckbdaaa", sum := "43fe2e6d076d7f11b5da8cbdd28796e25b1f0a5134a33355863140a4e1b86255", func := "loop.example/g00259/laws.FnExactForget", spec := "fnExactForget", inPlace := ["internal/bytealg.abigen_runtime_cmpstring"], unfollowed := true, recurses := true, apart := false, narrowed := true }
def FnExactForgetUptoSaid : Prop := fnExactForgetUptoRow.holds Try.pinned (OpenSpec.upto fnExactForgetSpec)

/-- 'laws.FnKeep', WHERE WHAT IT READS IS OF BULK AT MOST 1048576: true; the input reads as it did. -/
def fnKeepUptoRow : OpenClaim := { program := "ytlijeincckbdaaa", sum := "43fe2e6d076d7f11b5da8cbdd28796e25b1f0a5134a33355863140a4e1b86255", func := "loop.example/g00259/laws.FnKeep", spec := "fnKeep", inPlace := ["internal/bytealg.abigen_runtime_cmpstring"], unfollowed := true, recurses := true, apart := false, narrowed := true }
def FnKeepUptoSaid : Prop := fnKeepUptoRow.holds Try.pinned (OpenSpec.upto fnKeepSpec)

/-- 'laws.FnExactStepsDo', WHERE WHAT IT READS IS OF BULK AT MOST 1048576: true; the input reads as it did. -/
def fnExactStepsDoUptoRow : OpenClaim := { program := "ytlijeincckbdaaa", sum := "43fe2e6d076d7f11b5da8cbdd28796e25b1f0a5134a33355863140a4e1b86255", func := "loop.example/g00259/laws.FnExactStepsDo", spec := "fnExactStepsDo", inPlace := ["internal/bytealg.abigen_runtime_cmpstring", "slices.overlaps[loop.example/g00259/impl.Stored]"], unfollowed := true, recurses := true, apart := false, narrowed := true }
def FnExactStepsDoUptoSaid : Prop := fnExactStepsDoUptoRow.holds Try.pinned (OpenSpec.upto fnExactStepsDoSpec)

end Rows
end Go.Proofs.Ytlijeincckbdaaa
