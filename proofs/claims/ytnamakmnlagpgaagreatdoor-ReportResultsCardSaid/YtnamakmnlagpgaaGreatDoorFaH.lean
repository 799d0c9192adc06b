import Derived.Test.YtnamakmnlagpgaaGreatDoorRows
import Derived.KernelRfl
import Derived.SevenTiedAt
set_option linter.unusedVariables false
set_option linter.unusedSimpArgs false
namespace Go.Proofs.YtnamakmnlagpgaaGreatDoor
open Go
set_option maxRecDepth 1000000 in
theorem fact25 : (Tryz.prog.stopsHeard) = true := by kernel_rfl
set_option maxRecDepth 1000000 in
theorem fact26 : (Tryz.prog.mayEnter) = true := by kernel_rfl
set_option maxRecDepth 1000000 in
theorem fact27 : ((Rows.reportResultsRow.lifted == Tryz.prog.liftsFinal)) = true := by kernel_rfl
set_option maxRecDepth 1000000 in
theorem fact28 : ((Tryz.prog.make == some Rows.reportResultsRow.make)) = true := by kernel_rfl
set_option maxRecDepth 1000000 in
theorem fact29 : ((Rows.reportResultsRow.kinds == (if Rows.reportResultsRow.domain.isEmpty then [] else Tryz.f3.params.toList.map fun t => match Tryz.prog.underlying t with | some (.int k) => some k | _ => none))) = true := by kernel_rfl
set_option maxRecDepth 1000000 in
theorem fact30 : ((Rows.reportResultsRow.pinned == Rows.reportResultsRow.pinnedBy)) = true := by kernel_rfl
end Go.Proofs.YtnamakmnlagpgaaGreatDoor
