import Derived.Test.YtnjpoodfaendkaaGreatDoorLo
set_option linter.unusedVariables false
set_option linter.unusedSimpArgs false
set_option linter.unusedVariables false
namespace Go.Proofs.YtnjpoodfaendkaaGreatDoor
open Go.ChangeShapes Go.WideShapes Go.ChangeAt Go.WideMaps Go.WideElems Go.RowKit

set_option maxRecDepth 1000000 in
theorem rec26 : Tryz.prog.readableRec 26 = true := by kernel_rfl
set_option maxRecDepth 1000000 in
theorem rec27 : Tryz.prog.readableRec 27 = true := by kernel_rfl
end Go.Proofs.YtnjpoodfaendkaaGreatDoor
