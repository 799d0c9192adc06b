import Derived.Test.YtnamakmnlagpgaaGreatDoorLo
import Derived.Test.YtnamakmnlagpgaaGreatDoorRows
set_option linter.unusedVariables false
set_option linter.unusedSimpArgs false
namespace Go.Proofs.YtnamakmnlagpgaaGreatDoor
open Go
set_option maxRecDepth 1000000 in
theorem fact1 : (Rows.reportResultsRow.wf (OpenSpec.ofChange Rows.reportResultsSpec)) = true := by kernel_rfl
set_option maxRecDepth 1000000 in
theorem fact3 : (mapsRowed Tryz.prog) = true := by kernel_rfl
set_option maxRecDepth 1000000 in
theorem fact5 : (namedTie Tryz.prog Rows.reportResultsRow.named Rows.reportResultsSpec.vars) = true := by kernel_rfl
set_option maxRecDepth 1000000 in
theorem fact6 : ((Rows.reportResultsRow.stops == [])) = true := by kernel_rfl
set_option maxRecDepth 1000000 in
theorem fact7 : ((Tryz.prog.stops == [])) = true := by kernel_rfl
set_option maxRecDepth 1000000 in
theorem fact8 : ((Rows.reportResultsRow.knobs == [])) = true := by kernel_rfl
set_option maxRecDepth 1000000 in
theorem fact9 : ((Tryz.prog.stopKnobs == [])) = true := by kernel_rfl
theorem fact2 : (laidOutB Tryz.prog) = true := laidOut
theorem fact4 : (Tryz.f3.params.all (Tryz.prog.readableRec ·)) = true := by
  rw [Tryz.params3]
  simp [rec22]
end Go.Proofs.YtnamakmnlagpgaaGreatDoor
