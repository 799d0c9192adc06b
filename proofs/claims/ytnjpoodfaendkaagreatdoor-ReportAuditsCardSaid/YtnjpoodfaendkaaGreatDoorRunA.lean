import Derived.Test.YtnjpoodfaendkaaGreatDoorAx12
import Derived.Test.YtnjpoodfaendkaaGreatDoorExt
import Derived.Lib.ItoaNum
set_option linter.unusedVariables false
set_option linter.unusedSimpArgs false
set_option linter.unusedVariables false
namespace Go.Proofs.YtnjpoodfaendkaaGreatDoor
noncomputable section
open Go Go.AX Go.RowKit

def tabC : List Value := [.int .u64 1, .int .u64 10, .int .u64 100, .int .u64 1000, .int .u64 10000, .int .u64 100000, .int .u64 1000000, .int .u64 10000000, .int .u64 100000000, .int .u64 1000000000, .int .u64 10000000000, .int .u64 100000000000, .int .u64 1000000000000, .int .u64 10000000000000, .int .u64 100000000000000, .int .u64 1000000000000000, .int .u64 10000000000000000, .int .u64 100000000000000000, .int .u64 1000000000000000000, .int .u64 10000000000000000000]

/-- a word, a space, a number's figures -/
def lineT (w : ByteArray) (n : Int) : ByteArray := ⟨(w.data.toList ++ 32 :: Lib.itoa n).toArray⟩

def lineX (args : Array Value) (h : H) : Option (Value × H) :=
  match args.toList with
  | [.agg ⟨[.string w, .int .i64 n]⟩] => some (.string (lineT w n), h)
  | _ => none

def callL (b : Bool) : AX.Call := fun f args h => cond (Nat.beq f 14) (lineX args h) (cond (Nat.beq f 15) (some (.bool b, h)) none)

def textsOf (r : Option (Value × H × List Ob)) : Option (List Value × List Ob) :=
  match r with
  | some (.slice (some ⟨b, o, none⟩) n c, h, lg) => match h.read b o n with
    | some l => some (l, lg)
    | none => none
  | _ => none

def h00 : H := startH []

def out7 (b : Bool) (rv : Value) : Option (List Value × List Ob) := textsOf (funcG Tryz.prog (callL b) (fun _ => none) 100 Tryz.prog.funcs[7]? #[rv] h00)

def wd (l : List UInt8) : ByteArray := ⟨l.toArray⟩
def lineV (w : List UInt8) (n : Int) : Value := .string (lineT (wd w) n)
def lineO (w : List UInt8) (n : Int) : Ob := .call 14 #[.agg #[.string (wd w), .int .i64 n]]
end
end Go.Proofs.YtnjpoodfaendkaaGreatDoor
