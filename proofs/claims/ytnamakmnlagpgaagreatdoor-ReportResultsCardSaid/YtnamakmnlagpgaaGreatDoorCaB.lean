import Derived.Test.YtnamakmnlagpgaaGreatDoorRows
import Derived.KernelRfl
import Derived.SevenTiedAt
set_option linter.unusedVariables false
set_option linter.unusedSimpArgs false
namespace Go.Proofs.YtnamakmnlagpgaaGreatDoor
open Go
set_option maxRecDepth 1000000 in
theorem cardWf : Rows.reportResultsRow.wfByText (OpenSpec.ofChange Rows.reportResultsSpec) = true := by kernel_rfl
set_option maxRecDepth 1000000 in
theorem cardMain : Tryz.prog.mainIs = some (true, "9b1a29c7b8620ad1d7b5d60dccc24a95ed9518774dcd0e5e7f1ebeed9f286a76".toList) := by kernel_rfl
set_option maxRecDepth 1000000 in
theorem cardLooks : true = Tryz.prog.looks [] := by kernel_rfl
set_option maxRecDepth 1000000 in
theorem cardStand : ([22].all fun u => !Tryz.prog.wantsStandIn u) = true := by kernel_rfl
set_option maxRecDepth 1000000 in
theorem cardName : Tryz.prog.funcNamed "redline/redlinelaw42.ReportResults" = some 3 := by kernel_rfl
end Go.Proofs.YtnamakmnlagpgaaGreatDoor
