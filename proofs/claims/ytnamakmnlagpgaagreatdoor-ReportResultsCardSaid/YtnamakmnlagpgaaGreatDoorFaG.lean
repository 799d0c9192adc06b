import Derived.Test.YtnamakmnlagpgaaGreatDoorRows
import Derived.KernelRfl
import Derived.SevenTiedAt
set_option linter.unusedVariables false
set_option linter.unusedSimpArgs false
namespace Go.Proofs.YtnamakmnlagpgaaGreatDoor
open Go
set_option maxRecDepth 1000000 in
theorem fact16 : ((Rows.reportResultsRow.mapsOut == Tryz.prog.mapsAmong Tryz.f3.resultTypes.toList)) = true := by kernel_rfl
set_option maxRecDepth 1000000 in
theorem fact19 : (Rows.reportResultsSpec.vars.all (Tryz.prog.varReadable ·)) = true := by kernel_rfl
set_option maxRecDepth 1000000 in
theorem fact23 : ((Rows.reportResultsRow.plainKeys == Tryz.prog.plainKeys)) = true := by kernel_rfl
set_option maxRecDepth 1000000 in
theorem fact24 : (Rows.reportResultsRow.shortTexts.isNone) = true := by kernel_rfl
end Go.Proofs.YtnamakmnlagpgaaGreatDoor
