import Derived.Test.YtnjpoodfaendkaaGreatDoorOpen
import Derived.SevenTiedAt
set_option linter.unusedVariables false
set_option linter.unusedSimpArgs false
set_option linter.unusedVariables false
namespace Go.Proofs.YtnjpoodfaendkaaGreatDoor
open Go
set_option maxRecDepth 1000000 in
theorem cardWf : Rows.reportAuditsRow.wfByText (OpenSpec.ofChange Rows.reportAuditsSpec) = true := by kernel_rfl
set_option maxRecDepth 1000000 in
theorem cardMain : Tryz.prog.mainIs = some (true, "a921832927b9bb573f01a504f5c9e318547a44d488dfd1b5e135aa21ecd12f06".toList) := by kernel_rfl
set_option maxRecDepth 1000000 in
theorem cardLooks : true = Tryz.prog.looks [] := by kernel_rfl
set_option maxRecDepth 1000000 in
theorem cardStand : ([26, 27].all fun u => !Tryz.prog.wantsStandIn u) = true := by kernel_rfl
set_option maxRecDepth 1000000 in
theorem cardName : Tryz.prog.funcNamed "redline/redlinelaw42.ReportAudits" = some 3 := by kernel_rfl
end Go.Proofs.YtnjpoodfaendkaaGreatDoor
