/-
  The tied card of redlinelaw42.ReportResults holds: at every list of rows that the statement admits, the law returns true, keeps the memory that it was handed, and its listed variables are tied to the program's text. Conditions: those of the given row alone (the variables lie as laid at the start; sizes as the row says). My own work, by an AI agent.
-/
import Derived.Test.YtnamakmnlagpgaaGreatDoorFaA
import Derived.Test.YtnamakmnlagpgaaGreatDoorFaC
import Derived.Test.YtnamakmnlagpgaaGreatDoorFaE
import Derived.Test.YtnamakmnlagpgaaGreatDoorFaF
import Derived.Test.YtnamakmnlagpgaaGreatDoorFaG
import Derived.Test.YtnamakmnlagpgaaGreatDoorFaH
import Derived.Test.YtnamakmnlagpgaaGreatDoorClo
import Derived.Test.YtnamakmnlagpgaaGreatDoorRows
import Derived.Test.YtnamakmnlagpgaaGreatDoorLift
import Derived.Test.YtnamakmnlagpgaaGreatDoorCaB
import Derived.Test.YtnamakmnlagpgaaGreatDoorCards
import Derived.Test.YtnamakmnlagpgaaGreatDoorTie
import Derived.SevenTiedAt
set_option linter.unusedVariables false
set_option linter.unusedSimpArgs false
namespace Go.Proofs.YtnamakmnlagpgaaGreatDoor
open Go
theorem andMk {a b : Bool} (ha : a = true) (hb : b = true) : (a && b) = true := by rw [ha, hb]; rfl
set_option maxRecDepth 1000000 in
theorem closedFacts : joinedFacts Tryz.prog 3 Tryz.f3 Rows.reportResultsSpec Rows.reportResultsRow = true := by
  unfold joinedFacts
  exact (andMk (andMk (andMk (andMk (andMk (andMk (andMk (andMk (andMk (andMk (andMk (andMk (andMk (andMk (andMk (andMk (andMk (andMk (andMk (andMk (andMk (andMk (andMk (andMk (andMk (andMk (andMk (andMk (andMk (andMk (andMk fact1 fact2) fact3) fact4) fact5) fact6) fact7) fact8) fact9) fact10) fact11) fact12) fact13) fact14) fact15) fact16) fact17) fact18) fact19) fact20) fact21) fact22) fact23) fact24) fact25) fact26) fact27) fact28) fact29) fact30) fact31) fact32)
end Go.Proofs.YtnamakmnlagpgaaGreatDoor

namespace Go.Proofs.YtnamakmnlagpgaaGreatDoor
open Go
theorem cardGoes : false = Rows.reportResultsRow.goesBy Tryz.prog := (goesAt_of Tryz.prog noGoes _ _).symm
end Go.Proofs.YtnamakmnlagpgaaGreatDoor

namespace Go.Proofs.YtnamakmnlagpgaaGreatDoor
open Go

set_option maxRecDepth 1000000 in
theorem row_holds : Rows.ReportResultsSaid :=
  OpenClaim.holds_of_wide 3 Tryz.f3 rfl rfl rfl rfl rfl rfl rfl ⟨rfl, rfl, rfl, rfl, rfl⟩ rfl rfl rfl rfl rfl cardName Tryz.func3 closedFacts
    (of_decide_eq_true (by kernel_rfl)) (by unfold Func.isWrapper; first | (rw [if_pos (by decide +kernel)]; kernel_rfl) | (rw [if_neg (by decide +kernel)]; exact ⟨rfl, rfl⟩))
    (fun os started H enc _ => lifted os started H enc)

set_option maxRecDepth 1000000 in
theorem card_holds : Rows.ReportResultsCardSaid :=
  Claim7.holds_tied_plain_at .later [] [.data, .data, .data, .sentinel, .sentinel, .sentinel, .sentinel, .sentinel, .sentinel, .sentinel, .sentinel, .sentinel, .sentinel, .sentinel, .sentinel, .sentinel, .sentinel, .sentinel, .sentinel, .sentinel, .sentinel, .sentinel, .widerDeep, .sentinel, .sentinel, .widerDeep] true (true, "9b1a29c7b8620ad1d7b5d60dccc24a95ed9518774dcd0e5e7f1ebeed9f286a76") true
    row_holds (fun _ h => by cases h) cardWf (fun _ h => by cases h) reportResults_row_tie rfl ⟨rfl, rfl⟩ cardMain rfl
    (fun f fn hf hfn => by
      obtain rfl : f = 3 := Option.some.inj (cardName.symm.trans hf) |>.symm
      obtain rfl : fn = Tryz.f3 := (Option.some.inj (Tryz.func3.symm.trans hfn)).symm
      exact ⟨cardLooks, fun j t ht => by
        rw [Tryz.params3] at ht
        have hm : t ∈ [22] := by simpa using Array.mem_of_getElem? ht
        exact (show Tryz.prog.wantsStandIn t = false by simpa using List.all_eq_true.1 cardStand t hm)⟩)
    cardGoes
end Go.Proofs.YtnamakmnlagpgaaGreatDoor
