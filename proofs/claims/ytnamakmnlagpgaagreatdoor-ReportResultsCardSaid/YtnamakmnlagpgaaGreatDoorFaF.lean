import Derived.Test.YtnamakmnlagpgaaGreatDoorClo
import Derived.Test.YtnamakmnlagpgaaGreatDoorRows
import Derived.Test.YtnamakmnlagpgaaGreatDoorTi0
import Derived.Test.YtnamakmnlagpgaaGreatDoorTi4
import Derived.Test.YtnamakmnlagpgaaGreatDoorTi6
set_option linter.unusedVariables false
set_option linter.unusedSimpArgs false
namespace Go.Proofs.YtnamakmnlagpgaaGreatDoor
open Go Go.AX

noncomputable def allInp : List (Option String) := inp0 ++ inp1 ++ inp2 ++ inp3 ++ inp4 ++ inp5 ++ inp6 ++ inp7
noncomputable def allInr : List (Option String) := inr0 ++ inr1 ++ inr2 ++ inr3 ++ inr4 ++ inr5 ++ inr6 ++ inr7
theorem rangeF : List.range 814 = List.range' 0 102 ++ List.range' 102 102 ++ List.range' 204 102 ++ List.range' 306 102 ++ List.range' 408 102 ++ List.range' 510 102 ++ List.range' 612 102 ++ List.range' 714 100 := by kernel_rfl
theorem inp_all : (List.range 814).map inName = allInp := by
  rw [rangeF]
  simp only [List.map_append, inp0_eq, inp1_eq, inp2_eq, inp3_eq, inp4_eq, inp5_eq, inp6_eq, inp7_eq, allInp]
theorem inr_all : (List.range 814).map inRead = allInr := by
  rw [rangeF]
  simp only [List.map_append, inr0_eq, inr1_eq, inr2_eq, inr3_eq, inr4_eq, inr5_eq, inr6_eq, inr7_eq, allInr]
theorem inp_at (i : Nat) : inName i = allInp.getD i none := by
  rw [← inp_all]
  by_cases h : i < 814
  · simp [List.getD, h]
  · have : inName i = none := by unfold inName; rw [out_of (by omega)]; rfl
    rw [this]
    simp [List.getD, h]
theorem inr_at (i : Nat) : inRead i = allInr.getD i none := by
  rw [← inr_all]
  by_cases h : i < 814
  · simp [List.getD, h]
  · have : inRead i = none := by unfold inRead; rw [out_of (by omega)]; rfl
    rw [this]
    simp [List.getD, h]

theorem place_of (P : Program) (f : FuncId) (L : List Nat) (A : List (Option String)) (hc : P.closure f = L)
    (hA : ∀ i : Nat, ((P.funcs[i]?).bind fun fn => if fn.ours || fn.body.isNone || fn.name == "runtime.NumGoroutine" then some fn.name else none) = A.getD i none) :
    P.inPlace f = L.filterMap fun g => A.getD g none := by
  unfold Program.inPlace
  rw [hc]
  exact congrArg (fun h => List.filterMap h L) (funext hA)
theorem named_of (P : Program) (f : FuncId) (L : List Nat) (A : List (List Nat)) (B : List (Option String)) (hc : P.closure f = L)
    (hA : ∀ i : Nat, ((P.funcs[i]?).bind (·.body)).elim [] Code.globalsNamed = A.getD i [])
    (hB : ∀ i : Nat, ((P.funcs[i]?).bind fun fn => if fn.body.isNone then entryReads.lookup fn.name else none) = B.getD i none) :
    P.varsNamed f = (((L.flatMap fun g => A.getD g []).eraseDups).filterMap (fun g => (P.globals[g]?).map (·.name)) ++ L.filterMap fun g => B.getD g none).eraseDups := by
  unfold Program.varsNamed
  rw [hc]
  have h1 : (fun g : FuncId => ((P.funcs[g]?).bind (·.body)).elim [] Code.globalsNamed) = fun g => A.getD g [] := funext hA
  have h2 : (fun g : FuncId => (P.funcs[g]?).bind fun fn => if fn.body.isNone then entryReads.lookup fn.name else none) = fun g => B.getD g none := funext hB
  rw [h1, h2]
theorem place3 : Tryz.prog.inPlace 3 = cloL.filterMap fun g => allInp.getD g none := place_of Tryz.prog 3 cloL allInp closure3 inp_at
theorem place3_eq : (Rows.reportResultsRow.inPlace == cloL.filterMap fun g => allInp.getD g none) = true := by kernel_rfl
theorem eq_sub {α : Type} [BEq α] {a b c : α} (h : b = c) (h2 : (a == c) = true) : (a == b) = true := by rw [h]; exact h2
theorem fact10 : ((Rows.reportResultsRow.inPlace == Tryz.prog.inPlace 3)) = true := eq_sub place3 place3_eq
theorem vnam : Tryz.prog.varsNamed 3 = (((cloL.flatMap fun g => allNam.getD g []).eraseDups).filterMap (fun g => (Tryz.prog.globals[g]?).map (·.name)) ++ cloL.filterMap fun g => allInr.getD g none).eraseDups :=
  named_of Tryz.prog 3 cloL allNam allInr closure3 nam_at inr_at
set_option maxRecDepth 1000000 in
theorem vnam_eq : (Rows.reportResultsRow.named == (((cloL.flatMap fun g => allNam.getD g []).eraseDups).filterMap (fun g => (Tryz.prog.globals[g]?).map (·.name)) ++ cloL.filterMap fun g => allInr.getD g none).eraseDups) = true := by kernel_rfl
theorem fact13 : ((Rows.reportResultsRow.named == Tryz.prog.varsNamed 3)) = true := eq_sub vnam vnam_eq

set_option maxRecDepth 1000000 in
theorem unf24 : ((Tryz.prog.funcs[128]?).any fun fn => match fn.body with | some c => c.unfollowed | none => entryCalls fn) = true := by kernel_rfl
theorem mem24 : cloL.contains 128 = true := by kernel_rfl
theorem unf_of (P : Program) (f : FuncId) (L : List Nat) (g : Nat) (hc : P.closure f = L) (hm : L.contains g = true)
    (h : ((P.funcs[g]?).any fun fn => match fn.body with | some c => c.unfollowed | none => entryCalls fn) = true) : P.unfollowed f = true := by
  unfold Program.unfollowed
  rw [hc, List.any_eq_true]
  exact ⟨g, by simpa using hm, h⟩
theorem rec_of (P : Program) (f : FuncId) (h : P.unfollowed f = true) : P.recurses f = true := by
  unfold Program.recurses
  rw [h]; rfl
theorem unf3 : Tryz.prog.unfollowed 3 = true := unf_of Tryz.prog 3 cloL 128 closure3 mem24 unf24
theorem isT (b : Bool) (h : b = true) (c : Bool) (hc : c = true) : (c == b) = true := by rw [h, hc]; rfl
theorem fact11 : ((Rows.reportResultsRow.unfollowed == Tryz.prog.unfollowed 3)) = true := isT _ unf3 _ rfl
theorem fact12 : ((Rows.reportResultsRow.recurses == Tryz.prog.recurses 3)) = true := isT _ (rec_of Tryz.prog 3 unf3) _ rfl
end Go.Proofs.YtnamakmnlagpgaaGreatDoor
