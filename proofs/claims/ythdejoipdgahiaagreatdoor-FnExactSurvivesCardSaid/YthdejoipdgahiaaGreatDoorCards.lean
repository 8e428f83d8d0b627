/-
  DERIVED. GIVEN WITH THE SEED: THE CARDS: each row of YthdejoipdgahiaaGreatDoorRows.lean that lists a variable, with what it lists TIED to the program's text (the seventh form; the later family's looks); each row that meets fmt, with fmt's text TOLD by the authors' own Lean function (tested against real Go, not proved from fmt's source: count such statements apart). THE CARD IS WHAT COUNTS. Prove the row's statement (the work); the ties are given (YthdejoipdgahiaaGreatDoorTie.lean); close each card by the builder's one call (the guide's Derived/Test/ToyasCard.lean, 'card_holds'). Laid BY PROGRAM, IN A SANDBOX (cutbox-door.mjs). By AI agents, Wed Nov 11 2026. No macro, syntax, notation, axiom, sorry.
-/
import Derived.Test.YthdejoipdgahiaaGreatDoorRows
import GoSem.ClaimSeven
namespace Go.Proofs.YthdejoipdgahiaaGreatDoor
namespace Rows

/-- THE TIED CARD OF 'laws.FnExactMendSteps'. -/
def fnExactMendStepsCard : Claim7 := { stood := { row := fnExactMendStepsRow, standIns := [], harness := (true, "89e241a7a08de444c85894f4ec58dccb62a31c9e98c284d0d1eda2f85d7d8d1d"), looks := false }, kinds := [], alts := [], laidByText := true, laidKinds := [.data, .data], laidTests := true, laidLooks := .later }
def FnExactMendStepsCardSaid : Prop := Claim7.holds Tryz.pinned (.plain (OpenSpec.ofChange fnExactMendStepsSpec)) fnExactMendStepsCard

/-- THE TIED CARD OF 'laws.FnExactSurvives'. -/
def fnExactSurvivesCard : Claim7 := { stood := { row := fnExactSurvivesRow, standIns := [], harness := (true, "89e241a7a08de444c85894f4ec58dccb62a31c9e98c284d0d1eda2f85d7d8d1d"), looks := false }, kinds := [], alts := [], laidByText := true, laidKinds := [.data, .data], laidTests := true, laidLooks := .later }
def FnExactSurvivesCardSaid : Prop := Claim7.holds Tryz.pinned (.plain (OpenSpec.ofChange fnExactSurvivesSpec)) fnExactSurvivesCard

/-- THE SECOND FORM's CARD OF 'laws.FnExactMendSteps'. -/
def fnExactMendStepsUptoCard : Claim7 := { stood := { row := fnExactMendStepsUptoRow, standIns := [], harness := (true, "89e241a7a08de444c85894f4ec58dccb62a31c9e98c284d0d1eda2f85d7d8d1d"), looks := false }, kinds := [], alts := [], laidByText := true, laidKinds := [.data, .data], laidTests := true, laidLooks := .later }
def FnExactMendStepsUptoCardSaid : Prop := Claim7.holds Tryz.pinned (.plain (OpenSpec.upto fnExactMendStepsSpec)) fnExactMendStepsUptoCard

/-- THE SECOND FORM's CARD OF 'laws.FnExactSurvives'. -/
def fnExactSurvivesUptoCard : Claim7 := { stood := { row := fnExactSurvivesUptoRow, standIns := [], harness := (true, "89e241a7a08de444c85894f4ec58dccb62a31c9e98c284d0d1eda2f85d7d8d1d"), looks := false }, kinds := [], alts := [], laidByText := true, laidKinds := [.data, .data], laidTests := true, laidLooks := .later }
def FnExactSurvivesUptoCardSaid : Prop := Claim7.holds Tryz.pinned (.plain (OpenSpec.upto fnExactSurvivesSpec)) fnExactSurvivesUptoCard
end Rows
end Go.Proofs.YthdejoipdgahiaaGreatDoor
