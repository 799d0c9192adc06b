import Derived.Test.YtnjpoodfaendkaaGreatDoorOpen
import Derived.SevenTiedAt
set_option linter.unusedVariables false
set_option linter.unusedSimpArgs false
set_option linter.unusedVariables false
namespace Go.Proofs.YtnjpoodfaendkaaGreatDoor
open Go.ChangeShapes Go.WideShapes Go.ChangeAt Go.WideMaps Go.WideElems Go.RowKit

theorem own : ownKnob Tryz.prog.godebug = none := by kernel_rfl
theorem loSize : Tryz.prog.types.size = 891 := by kernel_rfl
theorem lo0 : ((List.range' 0 297).all (rowFine Tryz.prog)) = true := by kernel_rfl
theorem lo1 : ((List.range' 297 297).all (rowFine Tryz.prog)) = true := by kernel_rfl
theorem lo2 : ((List.range' 594 297).all (rowFine Tryz.prog)) = true := by kernel_rfl
theorem loRange : List.range 891 = List.range' 0 297 ++ List.range' 297 297 ++ List.range' 594 297 := by kernel_rfl
theorem loA : ((List.range 891).all (rowFine Tryz.prog)) = true := by
  rw [loRange, List.all_append, List.all_append, lo0, lo1, lo2]; rfl
theorem loB : Tryz.prog.globals.all (fun g => decide (g.type < 891)) = true := by kernel_rfl
theorem loC : Tryz.prog.funcs.all (fun f => f.params.all fun t => decide (t < 891)) = true := by kernel_rfl
theorem laidOut_of (P : Program) (n : Nat) (hn : P.types.size = n) (a : (List.range n).all (rowFine P) = true) (b : P.globals.all (fun g => decide (g.type < n)) = true) (c : P.funcs.all (fun f => f.params.all fun t => decide (t < n)) = true) : laidOutB P = true := by
  subst hn
  unfold laidOutB
  rw [a, b, c]; rfl
theorem laidOut : laidOutB Tryz.prog = true := laidOut_of Tryz.prog 891 loSize loA loB loC
end Go.Proofs.YtnjpoodfaendkaaGreatDoor
