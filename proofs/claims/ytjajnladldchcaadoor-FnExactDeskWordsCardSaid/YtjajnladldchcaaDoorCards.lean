/-
  DERIVED. GIVEN WITH THE SEED: THE CARDS: each row of YtjajnladldchcaaDoorRows.lean that lists a variable, with what it lists TIED to the program's text (the seventh form; the later family's looks); each row that meets fmt, with fmt's text TOLD by the authors' own Lean function (tested against real Go, not proved from fmt's source: count such statements apart). THE CARD IS WHAT COUNTS. Prove the row's statement (the work); the ties are given (YtjajnladldchcaaDoorTie.lean); close each card by the builder's one call (the guide's Derived/Test/ToyasCard.lean, 'card_holds'). Laid BY PROGRAM, IN A SANDBOX (cutbox-door.mjs). By AI agents, Wed Nov 11 2026. No macro, syntax, notation, axiom, sorry.
-/
import Derived.Test.YtjajnladldchcaaDoorRows
import GoSem.ClaimSeven
namespace Go.Proofs.YtjajnladldchcaaDoor
namespace Rows

/-- THE TIED CARD OF 'laws.FnExactDeskWords'. -/
def fnExactDeskWordsCard : Claim7 := { stood := { row := fnExactDeskWordsRow, standIns := [], harness := (true, "65f89c5a9a9d9fb5c493c598d141081c2fcdccf64fc39522cdda743a9fce3e8d"), looks := false }, kinds := [], alts := [], laidByText := true, laidKinds := [.mapped], laidTests := true, laidLooks := .later }
def FnExactDeskWordsCardSaid : Prop := Claim7.holds Tryd.pinned (.plain (OpenSpec.ofChange fnExactDeskWordsSpec)) fnExactDeskWordsCard

/-- THE SECOND FORM's CARD OF 'laws.FnExactDeskWords'. -/
def fnExactDeskWordsUptoCard : Claim7 := { stood := { row := fnExactDeskWordsUptoRow, standIns := [], harness := (true, "65f89c5a9a9d9fb5c493c598d141081c2fcdccf64fc39522cdda743a9fce3e8d"), looks := false }, kinds := [], alts := [], laidByText := true, laidKinds := [.mapped], laidTests := true, laidLooks := .later }
def FnExactDeskWordsUptoCardSaid : Prop := Claim7.holds Tryd.pinned (.plain (OpenSpec.upto fnExactDeskWordsSpec)) fnExactDeskWordsUptoCard
end Rows
end Go.Proofs.YtjajnladldchcaaDoor
