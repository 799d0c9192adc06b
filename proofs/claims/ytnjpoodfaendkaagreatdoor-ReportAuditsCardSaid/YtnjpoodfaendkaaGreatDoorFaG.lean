import Derived.Test.YtnjpoodfaendkaaGreatDoorOpen
import Derived.SevenTiedAt
set_option linter.unusedVariables false
set_option linter.unusedSimpArgs false
set_option linter.unusedVariables false
namespace Go.Proofs.YtnjpoodfaendkaaGreatDoor
open Go
set_option maxRecDepth 1000000 in
theorem fact16 : ((Rows.reportAuditsRow.mapsOut == Tryz.prog.mapsAmong Tryz.f3.resultTypes.toList)) = true := by kernel_rfl
set_option maxRecDepth 1000000 in
theorem fact19 : (Rows.reportAuditsSpec.vars.all (Tryz.prog.varReadable ·)) = true := by kernel_rfl
set_option maxRecDepth 1000000 in
theorem fact23 : ((Rows.reportAuditsRow.plainKeys == Tryz.prog.plainKeys)) = true := by kernel_rfl
set_option maxRecDepth 1000000 in
theorem fact24 : (Rows.reportAuditsRow.shortTexts.isNone) = true := by kernel_rfl
end Go.Proofs.YtnjpoodfaendkaaGreatDoor
