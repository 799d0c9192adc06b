/-
  The tied card of redlinelaw42.ReportAudits holds: at every record and every list of texts that the statement admits, the law returns true, keeps the memory that it was handed, and its listed variables are tied to the program's text. Conditions: those of the given row alone (the variables lie as laid at the start; sizes as the row says). My own work, by an AI agent.
-/
import Derived.Test.YtnjpoodfaendkaaGreatDoorFaA
import Derived.Test.YtnjpoodfaendkaaGreatDoorFaC
import Derived.Test.YtnjpoodfaendkaaGreatDoorFaE
import Derived.Test.YtnjpoodfaendkaaGreatDoorFaF
import Derived.Test.YtnjpoodfaendkaaGreatDoorFaG
import Derived.Test.YtnjpoodfaendkaaGreatDoorFaH
import Derived.Test.YtnjpoodfaendkaaGreatDoorLift
import Derived.Test.YtnjpoodfaendkaaGreatDoorCaB
import Derived.Test.YtnjpoodfaendkaaGreatDoorClo
import Derived.SevenTiedAt
set_option linter.unusedVariables false
set_option linter.unusedSimpArgs false
set_option linter.unusedVariables false
namespace Go.Proofs.YtnjpoodfaendkaaGreatDoor
open Go
theorem andMk {a b : Bool} (ha : a = true) (hb : b = true) : (a && b) = true := by rw [ha, hb]; rfl
set_option maxRecDepth 1000000 in
theorem closedFacts : joinedFacts Tryz.prog 3 Tryz.f3 Rows.reportAuditsSpec Rows.reportAuditsRow = true := by
  unfold joinedFacts
  exact (andMk (andMk (andMk (andMk (andMk (andMk (andMk (andMk (andMk (andMk (andMk (andMk (andMk (andMk (andMk (andMk (andMk (andMk (andMk (andMk (andMk (andMk (andMk (andMk (andMk (andMk (andMk (andMk (andMk (andMk (andMk fact1 fact2) fact3) fact4) fact5) fact6) fact7) fact8) fact9) fact10) fact11) fact12) fact13) fact14) fact15) fact16) fact17) fact18) fact19) fact20) fact21) fact22) fact23) fact24) fact25) fact26) fact27) fact28) fact29) fact30) fact31) fact32)
end Go.Proofs.YtnjpoodfaendkaaGreatDoor

set_option linter.unusedVariables false
namespace Go.Proofs.YtnjpoodfaendkaaGreatDoor
open Go

set_option maxRecDepth 1000000 in
theorem reportAudits_holds : Rows.ReportAuditsSaid :=
  OpenClaim.holds_of_wide 3 Tryz.f3 rfl rfl rfl rfl rfl rfl rfl ⟨rfl, rfl, rfl, rfl, rfl⟩ rfl rfl rfl rfl rfl cardName Tryz.func3 closedFacts
    (of_decide_eq_true (by kernel_rfl)) (by unfold Func.isWrapper; first | (rw [if_pos (by decide +kernel)]; kernel_rfl) | (rw [if_neg (by decide +kernel)]; exact ⟨rfl, rfl⟩))
    (fun os started H enc _ => lifted os started H enc)
end Go.Proofs.YtnjpoodfaendkaaGreatDoor

set_option linter.unusedVariables false
namespace Go.Proofs.YtnjpoodfaendkaaGreatDoor
open Go

set_option maxRecDepth 1000000 in
theorem card_holds : Rows.ReportAuditsCardSaid :=
  Claim7.holds_tied_plain_at .later [] [.data, .data, .data, .sentinel, .sentinel, .sentinel, .sentinel, .sentinel, .sentinel, .sentinel, .sentinel, .sentinel, .sentinel, .sentinel, .sentinel, .sentinel, .sentinel, .sentinel, .sentinel, .sentinel, .sentinel, .sentinel, .widerDeep, .sentinel, .sentinel, .widerDeep] true (true, "a921832927b9bb573f01a504f5c9e318547a44d488dfd1b5e135aa21ecd12f06") true
    reportAudits_holds (fun _ h => by cases h) cardWf (fun _ h => by cases h) reportAudits_row_tie rfl ⟨rfl, rfl⟩ cardMain rfl
    (fun f fn hf hfn => by
      obtain rfl : f = 3 := Option.some.inj (cardName.symm.trans hf) |>.symm
      obtain rfl : fn = Tryz.f3 := (Option.some.inj (Tryz.func3.symm.trans hfn)).symm
      exact ⟨cardLooks, fun j t ht => by
        rw [Tryz.params3] at ht
        have hm : t ∈ [26, 27] := by simpa using Array.mem_of_getElem? ht
        exact (show Tryz.prog.wantsStandIn t = false by simpa using List.all_eq_true.1 cardStand t hm)⟩)
    cardGoes
end Go.Proofs.YtnjpoodfaendkaaGreatDoor
