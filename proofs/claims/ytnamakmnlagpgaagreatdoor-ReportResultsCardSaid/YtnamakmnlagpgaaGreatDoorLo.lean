import Derived.Test.YtnamakmnlagpgaaGreatDoorProg
import Derived.SevenTiedAt
import Derived.KernelRfl
import Derived.ProofKit
import Derived.LaidMore
import Derived.OpenShut
import Derived.Stop.Joined
import Derived.SliceStrings
set_option linter.unusedVariables false
set_option linter.unusedSimpArgs false
namespace Go.Proofs.YtnamakmnlagpgaaGreatDoor
open Go.ChangeShapes Go.WideShapes Go.ChangeAt Go.RowKit
theorem own : ownKnob Tryz.prog.godebug = none := by kernel_rfl
theorem loSize : Tryz.prog.types.size = 887 := by kernel_rfl
theorem lo0 : ((List.range' 0 296).all (rowFine Tryz.prog)) = true := by kernel_rfl
theorem lo1 : ((List.range' 296 296).all (rowFine Tryz.prog)) = true := by kernel_rfl
theorem lo2 : ((List.range' 592 295).all (rowFine Tryz.prog)) = true := by kernel_rfl
theorem loRange : List.range 887 = List.range' 0 296 ++ List.range' 296 296 ++ List.range' 592 295 := by kernel_rfl
theorem loA : ((List.range 887).all (rowFine Tryz.prog)) = true := by
  rw [loRange, List.all_append, List.all_append, lo0, lo1, lo2]; rfl
theorem loB : Tryz.prog.globals.all (fun g => decide (g.type < 887)) = true := by kernel_rfl
theorem loC : Tryz.prog.funcs.all (fun f => f.params.all fun t => decide (t < 887)) = true := by kernel_rfl
theorem laidOut_of (P : Program) (n : Nat) (hn : P.types.size = n) (a : (List.range n).all (rowFine P) = true) (b : P.globals.all (fun g => decide (g.type < n)) = true) (c : P.funcs.all (fun f => f.params.all fun t => decide (t < n)) = true) : laidOutB P = true := by
  subst hn
  unfold laidOutB
  rw [a, b, c]; rfl
theorem laidOut : laidOutB Tryz.prog = true := laidOut_of Tryz.prog 887 loSize loA loB loC
end Go.Proofs.YtnamakmnlagpgaaGreatDoor

namespace Go.Proofs.YtnamakmnlagpgaaGreatDoor
open Go
set_option maxRecDepth 1000000 in
theorem rec22 : Tryz.prog.readableRec 22 = true := by kernel_rfl
end Go.Proofs.YtnamakmnlagpgaaGreatDoor
