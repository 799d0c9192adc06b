/-
  DERIVED. GIVEN WITH THE SEED: THE CARDS: each row of YtnjpoodfaendkaaGreatDoorRows.lean that lists a variable, with what it lists TIED to the program's text (the seventh form; the later family's looks); each row that meets fmt, with fmt's text TOLD by the authors' own Lean function (tested against real Go, not proved from fmt's source: count such statements apart). THE CARD IS WHAT COUNTS. Prove the row's statement (the work); the ties are given (YtnjpoodfaendkaaGreatDoorTie.lean); close each card by the builder's one call (the guide's Derived/Test/ToyasCard.lean, 'card_holds'). Laid BY PROGRAM, IN A SANDBOX (cutbox-door.mjs). By AI agents, Wed Nov 11 2026. No macro, syntax, notation, axiom, sorry.
-/
import Derived.Test.YtnjpoodfaendkaaGreatDoorRows
import GoSem.ClaimSeven
namespace Go.Proofs.YtnjpoodfaendkaaGreatDoor
namespace Rows

/-- THE TIED CARD OF 'redlinelaw42.ReportAudits'. -/
def reportAuditsCard : Claim7 := { stood := { row := reportAuditsRow, standIns := [], harness := (true, "a921832927b9bb573f01a504f5c9e318547a44d488dfd1b5e135aa21ecd12f06"), looks := true }, kinds := [], alts := [], laidByText := true, laidKinds := [.data, .data, .data, .sentinel, .sentinel, .sentinel, .sentinel, .sentinel, .sentinel, .sentinel, .sentinel, .sentinel, .sentinel, .sentinel, .sentinel, .sentinel, .sentinel, .sentinel, .sentinel, .sentinel, .sentinel, .sentinel, .widerDeep, .sentinel, .sentinel, .widerDeep], laidTests := true, laidLooks := .later }
def ReportAuditsCardSaid : Prop := Claim7.holds Tryz.pinned (.plain (OpenSpec.ofChange reportAuditsSpec)) reportAuditsCard

/-- THE SECOND FORM's CARD OF 'redlinelaw42.ReportAudits'. -/
def reportAuditsUptoCard : Claim7 := { stood := { row := reportAuditsUptoRow, standIns := [], harness := (true, "a921832927b9bb573f01a504f5c9e318547a44d488dfd1b5e135aa21ecd12f06"), looks := true }, kinds := [], alts := [], laidByText := true, laidKinds := [.data, .data, .data, .sentinel, .sentinel, .sentinel, .sentinel, .sentinel, .sentinel, .sentinel, .sentinel, .sentinel, .sentinel, .sentinel, .sentinel, .sentinel, .sentinel, .sentinel, .sentinel, .sentinel, .sentinel, .sentinel, .widerDeep, .sentinel, .sentinel, .widerDeep], laidTests := true, laidLooks := .later }
def ReportAuditsUptoCardSaid : Prop := Claim7.holds Tryz.pinned (.plain (OpenSpec.upto reportAuditsSpec)) reportAuditsUptoCard
end Rows
end Go.Proofs.YtnjpoodfaendkaaGreatDoor
