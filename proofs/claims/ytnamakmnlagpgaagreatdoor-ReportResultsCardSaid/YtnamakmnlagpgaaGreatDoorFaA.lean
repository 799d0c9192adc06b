import Derived.Test.YtnamakmnlagpgaaGreatDoorRows
import Derived.KernelRfl
import Derived.SevenTiedAt
set_option linter.unusedVariables false
set_option linter.unusedSimpArgs false
namespace Go.Proofs.YtnamakmnlagpgaaGreatDoor
open Go
set_option maxRecDepth 1000000 in
theorem fact14 : ((Rows.reportResultsRow.maps == (Tryz.f3.params.toList ++ Rows.reportResultsSpec.plain.varTypes Tryz.prog).any (Tryz.prog.mapsRec ·))) = true := by kernel_rfl
set_option maxRecDepth 1000000 in
theorem fact15 : ((Rows.reportResultsRow.ifaces == (Tryz.f3.params.toList ++ Rows.reportResultsSpec.plain.varTypes Tryz.prog).any (Tryz.prog.ifacesRec ·))) = true := by kernel_rfl
end Go.Proofs.YtnamakmnlagpgaaGreatDoor

namespace Go.Proofs.YtnamakmnlagpgaaGreatDoor
open Go
set_option maxRecDepth 1000000 in
theorem fact17 : ((Rows.reportResultsRow.loops == (Tryz.f3.params.toList ++ Rows.reportResultsSpec.plain.varTypes Tryz.prog).any (Tryz.prog.loopsFrom ·))) = true := by kernel_rfl
set_option maxRecDepth 1000000 in
theorem fact18 : ((Rows.reportResultsRow.wideKeys == (Tryz.f3.params.toList ++ Rows.reportResultsSpec.plain.varTypes Tryz.prog ++ Tryz.f3.resultTypes.toList).any (Tryz.prog.wideKeysFrom ·))) = true := by kernel_rfl
end Go.Proofs.YtnamakmnlagpgaaGreatDoor
