import Derived.Test.YtnjpoodfaendkaaGreatDoorRec
set_option linter.unusedVariables false
set_option linter.unusedSimpArgs false
set_option linter.unusedVariables false
namespace Go.Proofs.YtnjpoodfaendkaaGreatDoor
open Go
set_option maxRecDepth 1000000 in
theorem fact1 : (Rows.reportAuditsRow.wf (OpenSpec.ofChange Rows.reportAuditsSpec)) = true := by kernel_rfl
set_option maxRecDepth 1000000 in
theorem fact3 : (mapsRowed Tryz.prog) = true := by kernel_rfl
set_option maxRecDepth 1000000 in
theorem fact5 : (namedTie Tryz.prog Rows.reportAuditsRow.named Rows.reportAuditsSpec.vars) = true := by kernel_rfl
set_option maxRecDepth 1000000 in
theorem fact6 : ((Rows.reportAuditsRow.stops == [])) = true := by kernel_rfl
set_option maxRecDepth 1000000 in
theorem fact7 : ((Tryz.prog.stops == [])) = true := by kernel_rfl
set_option maxRecDepth 1000000 in
theorem fact8 : ((Rows.reportAuditsRow.knobs == [])) = true := by kernel_rfl
set_option maxRecDepth 1000000 in
theorem fact9 : ((Tryz.prog.stopKnobs == [])) = true := by kernel_rfl
theorem fact2 : (laidOutB Tryz.prog) = true := laidOut
theorem fact4 : (Tryz.f3.params.all (Tryz.prog.readableRec ·)) = true := by
  rw [Tryz.params3]
  simp [rec26, rec27]
end Go.Proofs.YtnjpoodfaendkaaGreatDoor
