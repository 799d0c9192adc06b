import Derived.Test.YtnjpoodfaendkaaGreatDoorRun7
set_option linter.unusedVariables false
set_option linter.unusedSimpArgs false
set_option linter.unusedVariables false
namespace Go.Proofs.YtnjpoodfaendkaaGreatDoor
noncomputable section
open Go Go.AX Go.RowKit
def figT (n : Int) : ByteArray := ⟨(Lib.itoa n).toArray⟩
def figX (args : Array Value) (h : H) : Option (Value × H) :=
  match args.toList with
  | [.int .i64 n] => some (.string (figT n), h)
  | _ => none
def callR : AX.Call := fun f args h => cond (Nat.beq f 16) (figX args h) none
def orcR (b : Bool) (d : Nat) : Option Value := cond (Nat.beq d 68) (some (.bool b)) none
def out8 (b : Bool) (rv : Value) : Option (List Value × List Ob) := textsOf (funcG Tryz.prog callR (orcR b) 100 Tryz.prog.funcs[8]? #[rv] h00)
def lineW (w : List UInt8) (n : Int) : Value := .string ((wd w ++ wd [32]) ++ figT n)
def figO (n : Int) : Ob := .call 16 #[.int .i64 n]
def out9 (rv : Value) : Option (Value × List Ob) :=
  match funcG Tryz.prog callR (orcR true) 100 Tryz.prog.funcs[9]? #[rv] h00 with
  | some (v, _, lg) => some (v, lg)
  | none => none
section
variable (g0 g1 a2 a3 a4 a5 a6 a7 a8 a9 a10 a11 a12 a13 a14 : Int)
theorem run8t : out8 true (repV g0 g1 a2 a3 a4 a5 a6 a7 a8 a9 a10 a11 a12 a13 a14) = some ((pairs g0 g1 a2 a3 a4 a5 a6 a7 a8 a9 a10 a11 a12 a13 a14).map (fun p => lineW p.1 p.2) ++ [.string (wd unsoundL)], (pairs g0 g1 a2 a3 a4 a5 a6 a7 a8 a9 a10 a11 a12 a13 a14).flatMap (fun p => [.add (wd p.1) (wd [32]), figO p.2, .add (wd p.1 ++ wd [32]) (figT p.2)]) ++ [.val (some (.bool (!(a5 == a7)))) (.bool true)]) := by kernel_rfl
theorem run8f : out8 false (repV g0 g1 a2 a3 a4 a5 a6 a7 a8 a9 a10 a11 a12 a13 a14) = some ((pairs g0 g1 a2 a3 a4 a5 a6 a7 a8 a9 a10 a11 a12 a13 a14).map (fun p => lineW p.1 p.2) ++ [.string (wd soundL)], (pairs g0 g1 a2 a3 a4 a5 a6 a7 a8 a9 a10 a11 a12 a13 a14).flatMap (fun p => [.add (wd p.1) (wd [32]), figO p.2, .add (wd p.1 ++ wd [32]) (figT p.2)]) ++ [.val (some (.bool (!(a5 == a7)))) (.bool false)]) := by kernel_rfl
theorem run9 : out9 (repV g0 g1 a2 a3 a4 a5 a6 a7 a8 a9 a10 a11 a12 a13 a14) = some (repV g0 g1 a2 a3 a4 a5 a6 a7 a8 a9 a10 a11 a12 a13 a14, []) := by kernel_rfl
end
end
end Go.Proofs.YtnjpoodfaendkaaGreatDoor
