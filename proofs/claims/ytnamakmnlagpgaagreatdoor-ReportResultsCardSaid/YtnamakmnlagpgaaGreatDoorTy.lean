import Derived.Test.YtnamakmnlagpgaaGreatDoorProg
import Derived.LaidMore
import Derived.KernelRfl
set_option linter.unusedVariables false
set_option linter.unusedSimpArgs false
namespace Go.Proofs.YtnamakmnlagpgaaGreatDoor
open Go
noncomputable def tyP (u : Nat) : Bool := Tryz.prog.typeName? 3 u != some "*errors.errorString" || u == 792
noncomputable def tyN (e : Nat) : Bool := Tryz.prog.typeName? 2 e != some "errors.errorString" || (match (Tryz.prog.info? e).map (·.desc) with | some (TypeDesc.named _ _) => true | _ => false)
theorem tySize : Tryz.prog.types.size = 887 := by kernel_rfl
theorem tyP0 : ((List.range' 0 296).all tyP) = true := by kernel_rfl
theorem tyP1 : ((List.range' 296 296).all tyP) = true := by kernel_rfl
theorem tyP2 : ((List.range' 592 295).all tyP) = true := by kernel_rfl
theorem tyN0 : ((List.range' 0 296).all tyN) = true := by kernel_rfl
theorem tyN1 : ((List.range' 296 296).all tyN) = true := by kernel_rfl
theorem tyN2 : ((List.range' 592 295).all tyN) = true := by kernel_rfl
theorem rangeT : List.range 887 = List.range' 0 296 ++ List.range' 296 296 ++ List.range' 592 295 := by kernel_rfl
theorem tyP_all : ((List.range 887).all tyP) = true := by
  rw [rangeT, List.all_append, List.all_append, tyP0, tyP1, tyP2]; rfl
theorem tyN_all : ((List.range 887).all tyN) = true := by
  rw [rangeT, List.all_append, List.all_append, tyN0, tyN1, tyN2]; rfl
theorem star : "*" ++ "errors.errorString" = "*errors.errorString" := by decide
theorem tyP_eq : ((List.range Tryz.prog.types.size).all fun u => Tryz.prog.typeName? 3 u != some ("*" ++ "errors.errorString") || u == 792) = true := by
  rw [tySize, star]; exact tyP_all
theorem tyN_eq : ((List.range Tryz.prog.types.size).all fun e => Tryz.prog.typeName? 2 e != some "errors.errorString" || (match (Tryz.prog.info? e).map (·.desc) with | some (TypeDesc.named _ _) => true | _ => false)) = true := by
  rw [tySize]; exact tyN_all
end Go.Proofs.YtnamakmnlagpgaaGreatDoor
