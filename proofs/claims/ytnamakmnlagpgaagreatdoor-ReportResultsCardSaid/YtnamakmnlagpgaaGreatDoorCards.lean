/-
  DERIVED. GIVEN WITH THE SEED: THE CARDS: each row of YtnamakmnlagpgaaGreatDoorRows.lean that lists a variable, with what it lists TIED to the program's text (the seventh form; the later family's looks); each row that meets fmt, with fmt's text TOLD by the authors' own Lean function (tested against real Go, not proved from fmt's source: count such statements apart). THE CARD IS WHAT COUNTS. Prove the row's statement (the work); the ties are given (YtnamakmnlagpgaaGreatDoorTie.lean); close each card by the builder's one call (the guide's Derived/Test/ToyasCard.lean, 'card_holds'). Laid BY PROGRAM, IN A SANDBOX (cutbox-door.mjs). By AI agents, Wed Nov 11 2026. No macro, syntax, notation, axiom, sorry.
-/
import Derived.Test.YtnamakmnlagpgaaGreatDoorRows
import GoSem.ClaimSeven
namespace Go.Proofs.YtnamakmnlagpgaaGreatDoor
namespace Rows

/-- THE TIED CARD OF 'redlinelaw42.ReportResults'. -/
def reportResultsCard : Claim7 := { stood := { row := reportResultsRow, standIns := [], harness := (true, "9b1a29c7b8620ad1d7b5d60dccc24a95ed9518774dcd0e5e7f1ebeed9f286a76"), looks := true }, kinds := [], alts := [], laidByText := true, laidKinds := [.data, .data, .data, .sentinel, .sentinel, .sentinel, .sentinel, .sentinel, .sentinel, .sentinel, .sentinel, .sentinel, .sentinel, .sentinel, .sentinel, .sentinel, .sentinel, .sentinel, .sentinel, .sentinel, .sentinel, .sentinel, .widerDeep, .sentinel, .sentinel, .widerDeep], laidTests := true, laidLooks := .later }
def ReportResultsCardSaid : Prop := Claim7.holds Tryz.pinned (.plain (OpenSpec.ofChange reportResultsSpec)) reportResultsCard

/-- THE SECOND FORM's CARD OF 'redlinelaw42.ReportResults'. -/
def reportResultsUptoCard : Claim7 := { stood := { row := reportResultsUptoRow, standIns := [], harness := (true, "9b1a29c7b8620ad1d7b5d60dccc24a95ed9518774dcd0e5e7f1ebeed9f286a76"), looks := true }, kinds := [], alts := [], laidByText := true, laidKinds := [.data, .data, .data, .sentinel, .sentinel, .sentinel, .sentinel, .sentinel, .sentinel, .sentinel, .sentinel, .sentinel, .sentinel, .sentinel, .sentinel, .sentinel, .sentinel, .sentinel, .sentinel, .sentinel, .sentinel, .sentinel, .widerDeep, .sentinel, .sentinel, .widerDeep], laidTests := true, laidLooks := .later }
def ReportResultsUptoCardSaid : Prop := Claim7.holds Tryz.pinned (.plain (OpenSpec.upto reportResultsSpec)) reportResultsUptoCard
end Rows
end Go.Proofs.YtnamakmnlagpgaaGreatDoor
