import Derived.Test.YtnamakmnlagpgaaGreatDoorLaid
import Derived.Test.YtnamakmnlagpgaaGreatDoorRows
import Derived.Lay
set_option linter.unusedVariables false
set_option linter.unusedSimpArgs false
namespace Go.Proofs.YtnamakmnlagpgaaGreatDoor
open Go Go.ChangeShapes Go.WideShapes Go.ChangeAt Go.RowKit
/-- the memory at the start, the listed variables laid -/
noncomputable def startW (os : Os) : World := World.laidAll Tryz.prog os Rows.reportResultsRow.laid
noncomputable abbrev startF (os : Os) : World := (startW os).forCall (fun _ _ => 0) ⟨#[], #[.slice none 0 0], []⟩
end Go.Proofs.YtnamakmnlagpgaaGreatDoor

namespace Go.Proofs.YtnamakmnlagpgaaGreatDoor
open Go Go.ChangeShapes Go.WideShapes Go.ChangeAt Go.RowKit
set_option maxRecDepth 1000000 in
theorem layFits (os : Os) : (World.holding Tryz.prog os ⟨#[], #[], []⟩).layFits Tryz.prog Rows.reportResultsRow.laid [] = true := by kernel_rfl
set_option maxRecDepth 1000000 in
theorem layIfaces (os : Os) : (World.holding Tryz.prog os ⟨#[], #[], []⟩).layIfaces Tryz.prog Rows.reportResultsRow.laid (World.laidAll Tryz.prog os Rows.reportResultsRow.laid) = true := by kernel_rfl
theorem door_met (os : Os) (args : Array Value) : laidMetH Tryz.prog Rows.reportResultsRow.laid ((startW os).forCall (fun _ _ => 0) ⟨#[], args, []⟩).memory := by
  rw [MakeChecks.laidMetH_plain _ _ _ (by kernel_rfl)]
  exact laidMet_laidAll args (layFits os) (layIfaces os)
end Go.Proofs.YtnamakmnlagpgaaGreatDoor

namespace Go.Proofs.YtnamakmnlagpgaaGreatDoor
open Go Go.ChangeShapes Go.WideShapes Go.ChangeAt Go.RowKit
set_option maxHeartbeats 0 in
set_option maxRecDepth 1000000 in
theorem sh1 (os : Os) : (startF os).variablesZipB Tryz.prog = true := by kernel_rfl
set_option maxHeartbeats 0 in
set_option maxRecDepth 1000000 in
theorem sh2 (os : Os) : ((startF os).heap.toList.drop Tryz.prog.globals.size).take ((begin Tryz.prog (fun _ _ => 0) default).world.heap.size - Tryz.prog.globals.size) = (begin Tryz.prog (fun _ _ => 0) default).world.heap.toList.drop Tryz.prog.globals.size := by kernel_rfl
end Go.Proofs.YtnamakmnlagpgaaGreatDoor

namespace Go.Proofs.YtnamakmnlagpgaaGreatDoor
open Go Go.ChangeShapes Go.WideShapes Go.ChangeAt Go.RowKit
set_option maxHeartbeats 0 in
set_option maxRecDepth 1000000 in
theorem ok1 (os : Os) : Input.okWideB Tryz.prog (startF os) 3 ⟨#[], #[.slice none 0 0], []⟩ = true := by kernel_rfl
end Go.Proofs.YtnamakmnlagpgaaGreatDoor

namespace Go.Proofs.YtnamakmnlagpgaaGreatDoor
open Go Go.ChangeShapes Go.WideShapes Go.ChangeAt Go.RowKit
set_option maxHeartbeats 0 in
set_option maxRecDepth 1000000 in
theorem ok2 (os : Os) (H : Type) (enc : TypeId × Value → H) : Rows.reportResultsSpec.preB enc Tryz.prog Tryz.f3 [] false (startF os).memory #[.slice none 0 0] 8 = true := by kernel_rfl
set_option maxHeartbeats 0 in
set_option maxRecDepth 1000000 in
theorem ok3 (os : Os) (H : Type) (enc : TypeId × Value → H) : Rows.reportResultsSpec.sizedB enc Tryz.prog Tryz.f3 false (startF os).memory #[.slice none 0 0] 8 = true := by kernel_rfl
end Go.Proofs.YtnamakmnlagpgaaGreatDoor

namespace Go.Proofs.YtnamakmnlagpgaaGreatDoor
open Go Go.ChangeShapes Go.WideShapes Go.ChangeAt Go.RowKit
set_option maxHeartbeats 0 in
set_option maxRecDepth 1000000 in
theorem witness (os : Os) (H : Type) (enc : TypeId × Value → H) : ∃ (w : World) (tape : Tape) (i : Input), w.os = os ∧ (w.forCall tape i).Shaped Tryz.checked.prog ∧ i.vars = [] ∧ Input.okWide Tryz.checked.prog (w.forCall tape i) .any w.heap.size 3 i ∧
      ((Rows.reportResultsSpec.pre enc Tryz.checked.prog Tryz.f3 [] false (w.forCall tape i).memory i.args ∧ laidMetH Tryz.prog Rows.reportResultsRow.laid (w.forCall tape i).memory) ∧ sizedMet enc Tryz.checked.prog Tryz.f3 (OpenSpec.ofChange Rows.reportResultsSpec) false (w.forCall tape i).memory i.args) ∧ ({} : Assume).holds Tryz.checked.prog (lone (Frame.enter Tryz.checked.prog 3 i.args .normal) [] (w.forCall tape i)) :=
  ChangeSpec.witness_shaped (enc := enc) (C := Tryz.checked) (os := os) (X := fun w _ => laidMetH Tryz.prog Rows.reportResultsRow.laid w) false (startW os) #[.slice none 0 0] 8 (World.laidAll_os _ _ _) (World.shaped_of_ZipB (sh1 os) (sh2 os)) (ok1 os) (ok2 os H enc) (ok3 os H enc) (door_met os _)
end Go.Proofs.YtnamakmnlagpgaaGreatDoor
