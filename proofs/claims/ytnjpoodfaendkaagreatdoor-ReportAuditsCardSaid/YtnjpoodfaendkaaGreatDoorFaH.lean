import Derived.Test.YtnjpoodfaendkaaGreatDoorOpen
import Derived.SevenTiedAt
set_option linter.unusedVariables false
set_option linter.unusedSimpArgs false
set_option linter.unusedVariables false
namespace Go.Proofs.YtnjpoodfaendkaaGreatDoor
open Go
set_option maxRecDepth 1000000 in
theorem fact25 : (Tryz.prog.stopsHeard) = true := by kernel_rfl
set_option maxRecDepth 1000000 in
theorem fact26 : (Tryz.prog.mayEnter) = true := by kernel_rfl
set_option maxRecDepth 1000000 in
theorem fact27 : ((Rows.reportAuditsRow.lifted == Tryz.prog.liftsFinal)) = true := by kernel_rfl
set_option maxRecDepth 1000000 in
theorem fact28 : ((Tryz.prog.make == some Rows.reportAuditsRow.make)) = true := by kernel_rfl
set_option maxRecDepth 1000000 in
theorem fact29 : ((Rows.reportAuditsRow.kinds == (if Rows.reportAuditsRow.domain.isEmpty then [] else Tryz.f3.params.toList.map fun t => match Tryz.prog.underlying t with | some (.int k) => some k | _ => none))) = true := by kernel_rfl
set_option maxRecDepth 1000000 in
theorem fact30 : ((Rows.reportAuditsRow.pinned == Rows.reportAuditsRow.pinnedBy)) = true := by kernel_rfl
end Go.Proofs.YtnjpoodfaendkaaGreatDoor
