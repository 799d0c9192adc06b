import Derived.Test.YtnjpoodfaendkaaGreatDoorOpen
import Derived.SevenTiedAt
set_option linter.unusedVariables false
set_option linter.unusedSimpArgs false
set_option linter.unusedVariables false
namespace Go.Proofs.YtnjpoodfaendkaaGreatDoor
open Go
set_option maxRecDepth 1000000 in
theorem fact14 : ((Rows.reportAuditsRow.maps == (Tryz.f3.params.toList ++ Rows.reportAuditsSpec.plain.varTypes Tryz.prog).any (Tryz.prog.mapsRec ·))) = true := by kernel_rfl
set_option maxRecDepth 1000000 in
theorem fact15 : ((Rows.reportAuditsRow.ifaces == (Tryz.f3.params.toList ++ Rows.reportAuditsSpec.plain.varTypes Tryz.prog).any (Tryz.prog.ifacesRec ·))) = true := by kernel_rfl
end Go.Proofs.YtnjpoodfaendkaaGreatDoor

set_option linter.unusedVariables false
namespace Go.Proofs.YtnjpoodfaendkaaGreatDoor
open Go
set_option maxRecDepth 1000000 in
theorem fact17 : ((Rows.reportAuditsRow.loops == (Tryz.f3.params.toList ++ Rows.reportAuditsSpec.plain.varTypes Tryz.prog).any (Tryz.prog.loopsFrom ·))) = true := by kernel_rfl
set_option maxRecDepth 1000000 in
theorem fact18 : ((Rows.reportAuditsRow.wideKeys == (Tryz.f3.params.toList ++ Rows.reportAuditsSpec.plain.varTypes Tryz.prog ++ Tryz.f3.resultTypes.toList).any (Tryz.prog.wideKeysFrom ·))) = true := by kernel_rfl
end Go.Proofs.YtnjpoodfaendkaaGreatDoor
