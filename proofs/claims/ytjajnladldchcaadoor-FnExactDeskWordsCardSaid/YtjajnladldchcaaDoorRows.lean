/-
  NARROWER THAN 'FOR EVERY INPUT', by the rows' own cells (each row's printed sentence says how): FnExactDeskWords: maps, laid.
  DERIVED. THE GIVEN ROWS OF THIS SEAT. 1 by the template 'for every input the law returns true; each argument reads behind the call as it read before'; 0 by the template 'total and deterministic' (their statements: YtjajnladldchcaaDoorTotals.lean).
  GIVEN WITH THE SEED: the statements are not yours to turn. If you find one false, say at which input.
  Laid BY PROGRAM, IN A SANDBOX (cutbox-rows.mjs): the forced cells as the released guide's own fill.sh prints them over the translation bbeea0d7fc4b410d… (all of the seat's roots in one cut). By AI agents, Wed Nov 11 2026. No macro, syntax, notation, axiom, sorry.
-/
import Derived.Test.YtjajnladldchcaaDoorChecked
import GoSem.Claim
import GoSem.ClaimJoined
import GoSem.ClaimMapViews
import Derived.JoinedTies
import Derived.KernelRfl
namespace Go.Proofs.YtjajnladldchcaaDoor
/- THE CELL 'sum', in the pinned program and in every row, IS THE sha256 OF THE DUMP (.gsa) THAT YtjajnladldchcaaDoorProg.lean LOADS. Nothing in Lean hashes anything: it is a label: what it is worth is what the hold of that sum in a sandbox is worth. -/
noncomputable def Tryd.pinned : Pinned := { name := "ytjajnladldchcaadoor", sum := "bbeea0d7fc4b410da2bd20d35c8dc530724879f285a6cfec81664a021587c932", checked := Tryd.checked }
namespace Rows
def none {H : Type} : Left H := { results := [], args := [] }

/- WHAT THE LISTED PACKAGE-LEVEL VARIABLES READ AS WHEN THE CALL BEGINS. Each datum BY PROGRAM (the guide's laid-datum.mjs) off the statement by which the dump's own 'gosem.cut.vars' lays the variable. In a bare row this is a premise. The card (YtjajnladldchcaaDoorCards.lean) ties it to the program's text. -/
def laid_loop_example_g00259_impl_kinds {H : Type} : DataW H := .map [(.string [98, 97, 99, 107, 117, 112], .lit (.string [87, 78])), (.string [99, 104, 101, 99, 107], .lit (.string [])), (.string [100, 114, 111, 112], .lit (.string [87])), (.string [102, 105, 108, 101], .lit (.string [87, 87])), (.string [102, 111, 114, 103, 101, 116], .lit (.string [87])), (.string [105, 110, 105, 116], .lit (.string [78, 78])), (.string [107, 101, 101, 112], .lit (.string [78, 78, 78, 78])), (.string [108, 111, 115, 101], .lit (.string [78])), (.string [110, 97, 109, 101, 115], .lit (.string [])), (.string [112, 114, 117, 110, 101], .lit (.string [78])), (.string [114, 101, 115, 116, 111, 114, 101], .lit (.string [87])), (.string [114, 111, 116], .lit (.string [78, 87, 78, 78])), (.string [115, 99, 114, 117, 98], .lit (.string [])), (.string [115, 110, 97, 112, 115], .lit (.string []))]

/-- 'laws.FnExactDeskWords': WHATEVER THE INPUT: true; the input reads as it did. -/
def fnExactDeskWordsSpec : ChangeSpec := { name := "fnExactDeskWords", vars := ["loop.example/g00259/impl.kinds"], fn := fun _ => fun
  | [g1] => { results := [.lit (.bool true)], args := [], vars := [g1] }
  | _ => none }
def fnExactDeskWordsRow : OpenClaim := { program := "ytjajnladldchcaadoor", sum := "bbeea0d7fc4b410da2bd20d35c8dc530724879f285a6cfec81664a021587c932", func := "loop.example/g00259/laws.FnExactDeskWords", spec := "fnExactDeskWords", recurses := true, named := ["loop.example/g00259/impl.kinds"], maps := true, apart := false, laid := [("loop.example/g00259/impl.kinds", laid_loop_example_g00259_impl_kinds)] }
def FnExactDeskWordsSaid : Prop := fnExactDeskWordsRow.holds Tryd.pinned (OpenSpec.ofChange fnExactDeskWordsSpec)

/-- ITS FALSE NEIGHBOUR: 'it returns false'. Refute it at one input. -/
def fnExactDeskWordsWrong : ChangeSpec := { name := "fnExactDeskWords", vars := ["loop.example/g00259/impl.kinds"], fn := fun _ => fun
  | [g1] => { results := [.lit (.bool false)], args := [], vars := [g1] }
  | _ => none }
def FnExactDeskWordsWrongFalsely : Prop := fnExactDeskWordsRow.holds Tryd.pinned (OpenSpec.ofChange fnExactDeskWordsWrong)

/- THE SECOND FORM. 'bulk': how many values and letters a reading holds, each counted each time it is reached (what is shared counts as often as it is met; a slice's spare places count too). A statement '..UptoSaid' is the law's where the arguments, and the package variables that the reading takes, are together of bulk at most 1048576: NARROWER than '..Said'. Prove '..Said' where nothing that the law and all that it calls make is longer than what came in: it says more and counts as full. Else prove '..UptoSaid'. A law counts once. -/
mutual
def uptoBulk {H : Type} : DataW H → Nat
  | .lit (.string bytes) => bytes.length + 1
  | .lit _ => 1
  | .nil => 1
  | .ptr d => uptoBulk d + 1
  | .slice elems spare => uptoBulkAll elems + uptoBulkAll spare + 1
  | .agg parts => uptoBulkAll parts + 1
  | .iface _ d => uptoBulk d + 1
  | .map entries => uptoBulkEntries entries + 1
  | .held _ => 1
def uptoBulkAll {H : Type} : List (DataW H) → Nat
  | [] => 0
  | d :: r => uptoBulk d + uptoBulkAll r
def uptoBulkEntries {H : Type} : List (Lit × DataW H) → Nat
  | [] => 0
  | x :: r => uptoBulkEntry x + uptoBulkEntries r
def uptoBulkEntry {H : Type} : Lit × DataW H → Nat
  | (.string bytes, d) => bytes.length + uptoBulk d + 1
  | (_, d) => uptoBulk d + 1
 end
def uptoSmall : (H : Type) → List (DataW H) → Bool := fun _ ds => decide (uptoBulkAll ds ≤ 1048576)
def OpenSpec.upto (s : _root_.Go.ChangeSpec) : _root_.Go.OpenSpec := { _root_.Go.OpenSpec.ofChange s with cond := some uptoSmall }

/-- 'laws.FnExactDeskWords', WHERE WHAT IT READS IS OF BULK AT MOST 1048576: true; the input reads as it did. -/
def fnExactDeskWordsUptoRow : OpenClaim := { program := "ytjajnladldchcaadoor", sum := "bbeea0d7fc4b410da2bd20d35c8dc530724879f285a6cfec81664a021587c932", func := "loop.example/g00259/laws.FnExactDeskWords", spec := "fnExactDeskWords", recurses := true, named := ["loop.example/g00259/impl.kinds"], maps := true, apart := false, laid := [("loop.example/g00259/impl.kinds", laid_loop_example_g00259_impl_kinds)], narrowed := true }
def FnExactDeskWordsUptoSaid : Prop := fnExactDeskWordsUptoRow.holds Tryd.pinned (OpenSpec.upto fnExactDeskWordsSpec)

end Rows
end Go.Proofs.YtjajnladldchcaaDoor
