import Derived.Test.YtnamakmnlagpgaaGreatDoorProg
import Derived.SevenTiedAt
import Derived.KernelRfl
set_option linter.unusedVariables false
set_option linter.unusedSimpArgs false
namespace Go.Proofs.YtnamakmnlagpgaaGreatDoor
open Go
/-- whom function i leads to -/
noncomputable def ledBy (i : Nat) : List FuncId := (Tryz.prog.funcs[i]?).elim [] Tryz.prog.leadsTo
/-- which variables function i names -/
noncomputable def namesOf (i : Nat) : List Nat := ((Tryz.prog.funcs[i]?).bind (·.body)).elim [] Code.globalsNamed
end Go.Proofs.YtnamakmnlagpgaaGreatDoor

namespace Go.Proofs.YtnamakmnlagpgaaGreatDoor
open Go
/-- the name of function i, where the model answers it in place -/
noncomputable def inName (i : Nat) : Option String := (Tryz.prog.funcs[i]?).bind fun fn => if fn.ours || fn.body.isNone || fn.name == "runtime.NumGoroutine" then some fn.name else none
/-- what function i reads at its entry -/
noncomputable def inRead (i : Nat) : Option String := (Tryz.prog.funcs[i]?).bind fun fn => if fn.body.isNone then entryReads.lookup fn.name else none
end Go.Proofs.YtnamakmnlagpgaaGreatDoor
