import Derived.Test.YtnjpoodfaendkaaGreatDoorRunA
set_option linter.unusedVariables false
set_option linter.unusedSimpArgs false
namespace Go.Proofs.YtnjpoodfaendkaaGreatDoor
noncomputable section
open Go Go.AX Go.RowKit
def repV (g0 g1 a2 a3 a4 a5 a6 a7 a8 a9 a10 a11 a12 a13 a14 : Int) : Value := .agg #[.int .u32 g0, .int .u32 g1, .int .i64 a2, .int .i64 a3, .int .i64 a4, .int .i64 a5, .int .i64 a6, .int .i64 a7, .int .i64 a8, .int .i64 a9, .int .i64 a10, .int .i64 a11, .int .i64 a12, .int .i64 a13, .int .i64 a14]
/-- the words, each with its number -/
def pairs (g0 g1 a2 a3 a4 a5 a6 a7 a8 a9 a10 a11 a12 a13 a14 : Int) : List (List UInt8 × Int) := [([103, 101, 110], (IntKind.i64.wrap g0)), ([98, 97, 115, 101], (IntKind.i64.wrap g1)), ([104, 97, 108, 102], a2), ([101, 118, 101, 114, 121], a3), ([102, 114, 97, 109, 101, 115], a5), ([116, 111, 108, 100], a7), ([118, 101, 114, 115, 105, 111, 110, 115], a12), ([115, 110, 97, 112, 115, 104, 111, 116, 115], a8), ([100, 101, 108, 116, 97, 115], a9), ([115, 107, 105, 112, 115], a10), ([99, 111, 115, 116], a11), ([117, 115, 101, 100], a6), ([114, 111, 111, 109], a13), ([111, 108, 100], a14)]
def soundL : List UInt8 := [115, 111, 117, 110, 100]
def unsoundL : List UInt8 := [117, 110, 115, 111, 117, 110, 100]
section
variable (g0 g1 a2 a3 a4 a5 a6 a7 a8 a9 a10 a11 a12 a13 a14 : Int)
theorem run7t : out7 true (repV g0 g1 a2 a3 a4 a5 a6 a7 a8 a9 a10 a11 a12 a13 a14) = some ((pairs g0 g1 a2 a3 a4 a5 a6 a7 a8 a9 a10 a11 a12 a13 a14).map (fun p => lineV p.1 p.2) ++ [.string (wd soundL)], (pairs g0 g1 a2 a3 a4 a5 a6 a7 a8 a9 a10 a11 a12 a13 a14).map (fun p => lineO p.1 p.2) ++ [.call 15 #[(repV g0 g1 a2 a3 a4 a5 a6 a7 a8 a9 a10 a11 a12 a13 a14)]]) := by kernel_rfl
theorem run7f : out7 false (repV g0 g1 a2 a3 a4 a5 a6 a7 a8 a9 a10 a11 a12 a13 a14) = some ((pairs g0 g1 a2 a3 a4 a5 a6 a7 a8 a9 a10 a11 a12 a13 a14).map (fun p => lineV p.1 p.2) ++ [.string (wd unsoundL)], (pairs g0 g1 a2 a3 a4 a5 a6 a7 a8 a9 a10 a11 a12 a13 a14).map (fun p => lineO p.1 p.2) ++ [.call 15 #[(repV g0 g1 a2 a3 a4 a5 a6 a7 a8 a9 a10 a11 a12 a13 a14)]]) := by kernel_rfl
end
end
end Go.Proofs.YtnjpoodfaendkaaGreatDoor
