/-
  No cell of these rows narrows 'for every input' (looked for: loops, veiled, ifaces, maps, wideKeys, modest, calm, conditions, laid).
  DERIVED. THE GIVEN ROWS OF THIS SEAT. 4 by the template 'for every input the law returns true; each argument reads behind the call as it read before'; 0 by the template 'total and deterministic' (their statements: YtdgnpkffdiopaaaTotals.lean).
  GIVEN WITH THE SEED: the statements are not yours to turn. If you find one false, say at which input.
  Laid BY PROGRAM, IN A SANDBOX (cutbox-rows.mjs): the forced cells as the released guide's own fill.sh prints them over the translation f682ddb879563e53… (all of the seat's roots in one cut). By AI agents, Wed Nov 11 2026. No macro, syntax, notation, axiom, sorry.
-/
import Derived.Test.YtdgnpkffdiopaaaChecked
import GoSem.Claim
import GoSem.ClaimJoined
import GoSem.ClaimMapViews
import Derived.JoinedTies
import Derived.KernelRfl
namespace Go.Proofs.Ytdgnpkffdiopaaa
/- THE CELL 'sum', in the pinned program and in every row, IS THE sha256 OF THE DUMP (.gsa) THAT YtdgnpkffdiopaaaProg.lean LOADS. Nothing in Lean hashes anything: it is a label: what it is worth is what the hold of that sum in a sandbox is worth. -/
noncomputable def Try.pinned : Pinned := { name := "ytdgnpkffdiopaaa", sum := "f682ddb879563e5322c4cd424653804450f7be20e09daebab4d98582d689019b", checked := Try.checked }
namespace Rows
def none {H : Type} : Left H := { results := [], args := [] }

/-- 'laws.FnExactDriveRot': WHATEVER THE INPUT: true; the input reads as it did. -/
def fnExactDriveRotSpec : ChangeSpec := { name := "fnExactDriveRot", fn := fun _ => fun
  | [d1, d2, d3, d4] => { results := [.lit (.bool true)], args := [d1, d2, d3, d4] }
  | _ => none }
def fnExactDriveRotRow : OpenClaim := { program := "ytdgnpkffdiopaaa", sum := "f682ddb879563e5322c4cd424653804450f7be20e09daebab4d98582d689019b", func := "loop.example/g00259/laws.FnExactDriveRot", spec := "fnExactDriveRot", inPlace := ["internal/bytealg.abigen_runtime_cmpstring"], unfollowed := true, recurses := true, apart := false }
def FnExactDriveRotSaid : Prop := fnExactDriveRotRow.holds Try.pinned (OpenSpec.ofChange fnExactDriveRotSpec)

/-- ITS FALSE NEIGHBOUR: 'it returns false'. Refute it at one input. -/
def fnExactDriveRotWrong : ChangeSpec := { name := "fnExactDriveRot", fn := fun _ => fun
  | [d1, d2, d3, d4] => { results := [.lit (.bool false)], args := [d1, d2, d3, d4] }
  | _ => none }
def FnExactDriveRotWrongFalsely : Prop := fnExactDriveRotRow.holds Try.pinned (OpenSpec.ofChange fnExactDriveRotWrong)

/-- 'laws.FnExactDriveCrash': WHATEVER THE INPUT: true; the input reads as it did. -/
def fnExactDriveCrashSpec : ChangeSpec := { name := "fnExactDriveCrash", fn := fun _ => fun
  | [d1, d2] => { results := [.lit (.bool true)], args := [d1, d2] }
  | _ => none }
def fnExactDriveCrashRow : OpenClaim := { program := "ytdgnpkffdiopaaa", sum := "f682ddb879563e5322c4cd424653804450f7be20e09daebab4d98582d689019b", func := "loop.example/g00259/laws.FnExactDriveCrash", spec := "fnExactDriveCrash", apart := false }
def FnExactDriveCrashSaid : Prop := fnExactDriveCrashRow.holds Try.pinned (OpenSpec.ofChange fnExactDriveCrashSpec)

/-- ITS FALSE NEIGHBOUR: 'it returns false'. Refute it at one input. -/
def fnExactDriveCrashWrong : ChangeSpec := { name := "fnExactDriveCrash", fn := fun _ => fun
  | [d1, d2] => { results := [.lit (.bool false)], args := [d1, d2] }
  | _ => none }
def FnExactDriveCrashWrongFalsely : Prop := fnExactDriveCrashRow.holds Try.pinned (OpenSpec.ofChange fnExactDriveCrashWrong)

/-- 'laws.FnExactCleanSteps': WHATEVER THE INPUT: true; the input reads as it did. -/
def fnExactCleanStepsSpec : ChangeSpec := { name := "fnExactCleanSteps", fn := fun _ => fun
  | [d] => { results := [.lit (.bool true)], args := [d] }
  | _ => none }
def fnExactCleanStepsRow : OpenClaim := { program := "ytdgnpkffdiopaaa", sum := "f682ddb879563e5322c4cd424653804450f7be20e09daebab4d98582d689019b", func := "loop.example/g00259/laws.FnExactCleanSteps", spec := "fnExactCleanSteps", unfollowed := true, recurses := true, apart := false }
def FnExactCleanStepsSaid : Prop := fnExactCleanStepsRow.holds Try.pinned (OpenSpec.ofChange fnExactCleanStepsSpec)

/-- ITS FALSE NEIGHBOUR: 'it returns false'. Refute it at one input. -/
def fnExactCleanStepsWrong : ChangeSpec := { name := "fnExactCleanSteps", fn := fun _ => fun
  | [d] => { results := [.lit (.bool false)], args := [d] }
  | _ => none }
def FnExactCleanStepsWrongFalsely : Prop := fnExactCleanStepsRow.holds Try.pinned (OpenSpec.ofChange fnExactCleanStepsWrong)

/-- 'laws.FnExactRemoveSteps': WHATEVER THE INPUT: true; the input reads as it did. -/
def fnExactRemoveStepsSpec : ChangeSpec := { name := "fnExactRemoveSteps", fn := fun _ => fun
  | [d1, d2] => { results := [.lit (.bool true)], args := [d1, d2] }
  | _ => none }
def fnExactRemoveStepsRow : OpenClaim := { program := "ytdgnpkffdiopaaa", sum := "f682ddb879563e5322c4cd424653804450f7be20e09daebab4d98582d689019b", func := "loop.example/g00259/laws.FnExactRemoveSteps", spec := "fnExactRemoveSteps", inPlace := ["internal/bytealg.abigen_runtime_cmpstring"], unfollowed := true, recurses := true, apart := false }
def FnExactRemoveStepsSaid : Prop := fnExactRemoveStepsRow.holds Try.pinned (OpenSpec.ofChange fnExactRemoveStepsSpec)

/-- ITS FALSE NEIGHBOUR: 'it returns false'. Refute it at one input. -/
def fnExactRemoveStepsWrong : ChangeSpec := { name := "fnExactRemoveSteps", fn := fun _ => fun
  | [d1, d2] => { results := [.lit (.bool false)], args := [d1, d2] }
  | _ => none }
def FnExactRemoveStepsWrongFalsely : Prop := fnExactRemoveStepsRow.holds Try.pinned (OpenSpec.ofChange fnExactRemoveStepsWrong)

/- THE SECOND FORM. 'bulk': how many values and letters a reading holds, each counted each time it is reached (what is shared counts as often as it is met; a slice's spare places count too). A statement '..UptoSaid' is the law's where the arguments, and the package variables that the reading takes, are together of bulk at most 1048576: NARROWER than '..Said'. Prove '..Said' where nothing that the law and all that it calls make is longer than what came in: it says more and counts as full. Else prove '..UptoSaid'. A law counts once. -/
mutual
def uptoBulk {H : Type} : DataW H → Nat
  | .lit (.string bytes) => bytes.length + 1
  | .lit _ => 1
  | .nil => 1
  | .ptr d => uptoBulk d + 1
  | .slice elems spare => uptoBulkAll elems + uptoBulkAll spare + 1
  | .agg parts => uptoBulkAll parts + 1
  | .iface _ d => uptoBulk d + 1
  | .map entries => uptoBulkEntries entries + 1
  | .held _ => 1
def uptoBulkAll {H : Type} : List (DataW H) → Nat
  | [] => 0
  | d :: r => uptoBulk d + uptoBulkAll r
def uptoBulkEntries {H : Type} : List (Lit × DataW H) → Nat
  | [] => 0
  | x :: r => uptoBulkEntry x + uptoBulkEntries r
def uptoBulkEntry {H : Type} : Lit × DataW H → Nat
  | (.string bytes, d) => bytes.length + uptoBulk d + 1
  | (_, d) => uptoBulk d + 1
 end
def uptoSmall : (H : Type) → List (DataW H) → Bool := fun _ ds => decide (uptoBulkAll ds ≤ 1048576)
def OpenSpec.upto (s : _root_.Go.ChangeSpec) : _root_.Go.OpenSpec := { _root_.Go.OpenSpec.ofChange s with cond := some uptoSmall }

/-- 'laws.FnExactDriveRot', WHERE WHAT IT READS IS OF BULK AT MOST 1048576: true; the input reads as it did. -/
def fnExactDriveRotUptoRow : OpenClaim := { program := "ytdgnpkffdiopaaa", sum := "f682ddb879563e5322c4cd424653804450f7be20e09daebab4d98582d689019b", func := "loop.example/g00259/laws.FnExactDriveRot", spec := "fnExactDriveRot", inPlace := ["internal/bytealg.abigen_runtime_cmpstring"], unfollowed := true, recurses := true, apart := false, narrowed := true }
def FnExactDriveRotUptoSaid : Prop := fnExactDriveRotUptoRow.holds Try.pinned (OpenSpec.upto fnExactDriveRotSpec)

/-- 'laws.FnExactDriveCrash', WHERE WHAT IT READS IS OF BULK AT MOST 1048576: true; the input reads as it did. -/
def fnExactDriveCrashUptoRow : OpenClaim := { program := "ytdgnpkffdiopaaa", sum := "f682ddb879563e5322c4cd424653804450f7be20e09daebab4d98582d689019b", func := "loop.example/g00259/laws.FnExactDriveCrash", spec := "fnExactDriveCrash", apart := false, narrowed := true }
def FnExactDriveCrashUptoSaid : Prop := fnExactDriveCrashUptoRow.holds Try.pinned (OpenSpec.upto fnExactDriveCrashSpec)

/-- 'laws.FnExactCleanSteps', WHERE WHAT IT READS IS OF BULK AT MOST 1048576: true; the input reads as it did. -/
def fnExactCleanStepsUptoRow : OpenClaim := { program := "ytdgnpkffdiopaaa", sum := "f682ddb879563e5322c4cd424653804450f7be20e09daebab4d98582d689019b", func := "loop.example/g00259/laws.FnExactCleanSteps", spec := "fnExactCleanSteps", unfollowed := true, recurses := true, apart := false, narrowed := true }
def FnExactCleanStepsUptoSaid : Prop := fnExactCleanStepsUptoRow.holds Try.pinned (OpenSpec.upto fnExactCleanStepsSpec)

/-- 'laws.FnExactRemoveSteps', WHERE WHAT IT READS IS OF BULK AT MOST 1048576: true; the input reads as it did. -/
def fnExactRemoveStepsUptoRow : OpenClaim := { program := "ytdgnpkffdiopaaa", sum := "f682ddb879563e5322c4cd424653804450f7be20e09daebab4d98582d689019b", func := "loop.example/g00259/laws.FnExactRemoveSteps", spec := "fnExactRemoveSteps", inPlace := ["internal/bytealg.abigen_runtime_cmpstring"], unfollowed := true, recurses := true, apart := false, narrowed := true }
def FnExactRemoveStepsUptoSaid : Prop := fnExactRemoveStepsUptoRow.holds Try.pinned (OpenSpec.upto fnExactRemoveStepsSpec)

end Rows
end Go.Proofs.Ytdgnpkffdiopaaa
