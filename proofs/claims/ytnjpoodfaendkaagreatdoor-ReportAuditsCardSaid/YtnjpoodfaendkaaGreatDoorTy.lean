import Derived.Test.YtnjpoodfaendkaaGreatDoorOpen
set_option linter.unusedVariables false
set_option linter.unusedSimpArgs false
set_option linter.unusedVariables false
namespace Go.Proofs.YtnjpoodfaendkaaGreatDoor
open Go
noncomputable def tyP (u : Nat) : Bool := Tryz.prog.typeName? 3 u != some "*errors.errorString" || u == 796
noncomputable def tyN (e : Nat) : Bool := Tryz.prog.typeName? 2 e != some "errors.errorString" || (match (Tryz.prog.info? e).map (·.desc) with | some (TypeDesc.named _ _) => true | _ => false)
theorem tySize : Tryz.prog.types.size = 891 := by kernel_rfl
theorem tyP0 : ((List.range' 0 297).all tyP) = true := by kernel_rfl
theorem tyP1 : ((List.range' 297 297).all tyP) = true := by kernel_rfl
theorem tyP2 : ((List.range' 594 297).all tyP) = true := by kernel_rfl
theorem tyN0 : ((List.range' 0 297).all tyN) = true := by kernel_rfl
theorem tyN1 : ((List.range' 297 297).all tyN) = true := by kernel_rfl
theorem tyN2 : ((List.range' 594 297).all tyN) = true := by kernel_rfl
theorem range891 : List.range 891 = List.range' 0 297 ++ List.range' 297 297 ++ List.range' 594 297 := by kernel_rfl
theorem tyP_all : ((List.range 891).all tyP) = true := by
  rw [range891, List.all_append, List.all_append, tyP0, tyP1, tyP2]; rfl
theorem tyN_all : ((List.range 891).all tyN) = true := by
  rw [range891, List.all_append, List.all_append, tyN0, tyN1, tyN2]; rfl
theorem star : "*" ++ "errors.errorString" = "*errors.errorString" := by decide
theorem tyP_eq : ((List.range Tryz.prog.types.size).all fun u => Tryz.prog.typeName? 3 u != some ("*" ++ "errors.errorString") || u == 796) = true := by
  rw [tySize, star]; exact tyP_all
theorem tyN_eq : ((List.range Tryz.prog.types.size).all fun e => Tryz.prog.typeName? 2 e != some "errors.errorString" || (match (Tryz.prog.info? e).map (·.desc) with | some (TypeDesc.named _ _) => true | _ => false)) = true := by
  rw [tySize]; exact tyN_all
end Go.Proofs.YtnjpoodfaendkaaGreatDoor
