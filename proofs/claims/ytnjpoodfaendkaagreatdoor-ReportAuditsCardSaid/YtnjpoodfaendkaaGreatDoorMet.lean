import Derived.Test.YtnjpoodfaendkaaGreatDoorOpen
import Derived.SevenTiedAt
set_option linter.unusedVariables false
set_option linter.unusedSimpArgs false
set_option linter.unusedVariables false
namespace Go.Proofs.YtnjpoodfaendkaaGreatDoor
open Go.ChangeShapes Go.WideShapes Go.ChangeAt Go.WideMaps Go.WideElems Go.RowKit

/-- The memory at the door. -/
noncomputable def doorW (os : Os) (args : Array Value) : World := ((World.doorLaid Tryz.prog 433 os).forCall (fun _ _ => 0) ⟨#[], args, []⟩).memory
/-- The listed variables that are no handles. -/
noncomputable def doorL : List (String × DataW Unit) := Rows.reportAuditsRow.laid.filter fun x => x.2.handleName?.isNone
theorem door1 (os : Os) (args : Array Value) : (DataW.laidRun Tryz.prog (doorW os args) 8 (doorL.map (·.1))).map (·.1) = some doorL := by kernel_rfl
theorem door2 (os : Os) (args : Array Value) : (DataW.laidRun Tryz.prog (doorW os args) 8 (doorL.map (·.1))).map (fun x => decide x.2.Nodup && laidRowsB Tryz.prog (doorW os args) x.2) = some true := by kernel_rfl
theorem door3 (os : Os) (args : Array Value) : (Rows.reportAuditsRow.laid.filter fun x => x.2.handleName?.isSome && x.2.funcsIn?.isNone).all (handleAtB Tryz.prog (doorW os args)) = true := by kernel_rfl
theorem door4 (os : Os) (args : Array Value) : funcsRun Tryz.prog (doorW os args) 8 ((funcsListed Rows.reportAuditsRow.laid).map (·.1)) = some ((funcsListed Rows.reportAuditsRow.laid).map (·.2.funcsOut)) := by kernel_rfl
/-- The door's own heap meets the condition. -/
theorem door_met (os : Os) (args : Array Value) : laidMetH Tryz.prog Rows.reportAuditsRow.laid ((World.doorLaid Tryz.prog 433 os).forCall (fun _ _ => 0) ⟨#[], args, []⟩).memory :=
  laidMetH_of_parts3 (fuel := 8) (laidMet_of_run' 8 (door1 os args) (door2 os args)) (door3 os args) (door4 os args)
end Go.Proofs.YtnjpoodfaendkaaGreatDoor
