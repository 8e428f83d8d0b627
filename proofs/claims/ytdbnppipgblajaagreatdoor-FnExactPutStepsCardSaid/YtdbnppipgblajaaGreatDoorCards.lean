/-
  DERIVED. GIVEN WITH THE SEED: THE CARDS: each row of YtdbnppipgblajaaGreatDoorRows.lean that lists a variable, with what it lists TIED to the program's text (the seventh form; the later family's looks); each row that meets fmt, with fmt's text TOLD by the authors' own Lean function (tested against real Go, not proved from fmt's source: count such statements apart). THE CARD IS WHAT COUNTS. Prove the row's statement (the work); the ties are given (YtdbnppipgblajaaGreatDoorTie.lean); close each card by the builder's one call (the guide's Derived/Test/ToyasCard.lean, 'card_holds'). Laid BY PROGRAM, IN A SANDBOX (cutbox-door.mjs). By AI agents, Wed Nov 11 2026. No macro, syntax, notation, axiom, sorry.
-/
import Derived.Test.YtdbnppipgblajaaGreatDoorRows
import GoSem.ClaimSeven
namespace Go.Proofs.YtdbnppipgblajaaGreatDoor
namespace Rows

/-- THE TIED CARD OF 'laws.FnExactPutSteps'. -/
def fnExactPutStepsCard : Claim7 := { stood := { row := fnExactPutStepsRow, standIns := [], harness := (true, "5c1fb639a7083b30000bced233c10d39c5eb73fd398093fea83455c9dee32978"), looks := false }, kinds := [], alts := [], laidByText := true, laidKinds := [.data, .data], laidTests := true, laidLooks := .later }
def FnExactPutStepsCardSaid : Prop := Claim7.holds Tryz.pinned (.plain (OpenSpec.ofChange fnExactPutStepsSpec)) fnExactPutStepsCard

/-- THE SECOND FORM's CARD OF 'laws.FnExactPutSteps'. -/
def fnExactPutStepsUptoCard : Claim7 := { stood := { row := fnExactPutStepsUptoRow, standIns := [], harness := (true, "5c1fb639a7083b30000bced233c10d39c5eb73fd398093fea83455c9dee32978"), looks := false }, kinds := [], alts := [], laidByText := true, laidKinds := [.data, .data], laidTests := true, laidLooks := .later }
def FnExactPutStepsUptoCardSaid : Prop := Claim7.holds Tryz.pinned (.plain (OpenSpec.upto fnExactPutStepsSpec)) fnExactPutStepsUptoCard
end Rows
end Go.Proofs.YtdbnppipgblajaaGreatDoor
