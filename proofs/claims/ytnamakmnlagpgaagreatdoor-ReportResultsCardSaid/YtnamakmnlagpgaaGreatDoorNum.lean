import Derived.Test.YtnamakmnlagpgaaGreatDoorProg
import Derived.Test.YtnamakmnlagpgaaGreatDoorAx12
import Derived.Test.YtnamakmnlagpgaaGreatDoorIs
import Derived.LoopTactic
import Derived.Outline
import Derived.Deep.RegionWith
import Derived.Deep.QuietTactic
import Derived.BigQuiet
set_option linter.unusedVariables false
set_option linter.unusedSimpArgs false
namespace Go.Proofs.YtnamakmnlagpgaaGreatDoor
open Go Go.AX
set_option maxHeartbeats 0 in
theorem noNumAll : (Tryz.prog.funcs.toList.all fun fn => !(fn.name == "runtime.NumGoroutine")) = true := by decide +kernel
theorem noNum : NoNum Tryz.prog := fun f fn h => by
  have := List.all_eq_true.1 noNumAll fn (by
    have := Array.mem_of_getElem? h
    simpa using this)
  simpa using this
end Go.Proofs.YtnamakmnlagpgaaGreatDoor

namespace Go.Proofs.YtnamakmnlagpgaaGreatDoor
open Go Go.RowKit

/-! ### the errors, by their numbers (0: the first one) -/
def errV (b o : Nat) : Value := .iface 792 (.pointer (some ⟨b, o, none⟩))
def gEL : List Nat := [3, 4, 5, 6, 7, 8, 9, 10, 11, 1, 12, 13, 14, 15, 16, 17, 18, 19, 0]
def ErrAt1 (w : World) (g b o : Nat) : Prop := (∃ el, w.heap[g]? = some (.cells #[errV b o] el (0, 0))) ∧ ∃ ca ta, w.heap[b]? = some (.cells ca ta (0, 0))
structure ErrsAt (w : World) (eb eo : Nat → Nat) : Prop where
  at1 : ∀ i, i < 19 → ErrAt1 w (gEL.getD i 0) (eb i) (eo i)
  inj : ∀ i j, i < 19 → j < 19 → i ≠ j → (⟨eb i, eo i, none⟩ : Addr) ≠ ⟨eb j, eo j, none⟩

theorem kept_obj {w w' : World} {k : Nat} {o : Obj} (h : w.heap[k]? = some o) (hb : Below w.heap.size w w') : w'.heap[k]? = some o := by
  rw [hb.block k (Array.getElem?_eq_some_iff.1 h).1]; exact h
theorem ErrsAt.kept {w w' : World} {eb eo : Nat → Nat} (h : ErrsAt w eb eo) (hb : Below w.heap.size w w') : ErrsAt w' eb eo :=
  ⟨fun i hi => by
    obtain ⟨⟨el, h1⟩, ca, ta, h2⟩ := h.at1 i hi
    exact ⟨⟨el, kept_obj h1 hb⟩, ca, ta, kept_obj h2 hb⟩, h.inj⟩


/-! ### the start of a closed run: the errors, the tables of words -/
noncomputable section
open Go.AX
def bs (l : List UInt8) : Value := .string ⟨l.toArray⟩
def wordsC : List Value := [(bs []), (bs [97, 112, 112, 101, 110, 100]), (bs [115, 121, 110, 99]), (bs [114, 101, 97, 100]), (bs [109, 101, 114, 103, 101]), (bs [100, 105, 102, 102]), (bs [114, 101, 118, 101, 114, 116]), (bs [99, 111, 109, 112, 97, 99, 116]), (bs [102, 117, 115, 101]), (bs [99, 114, 97, 115, 104]), (bs [111, 112, 101, 110]), (bs [99, 114, 101, 97, 116, 101])]
def namesC : List Value := [(bs []), (bs [100, 111, 117, 98, 108, 101]), (bs [102, 108, 111, 97, 116]), (bs [105, 110, 116, 51, 50]), (bs [105, 110, 116, 54, 52]), (bs [117, 105, 110, 116, 51, 50]), (bs [117, 105, 110, 116, 54, 52]), (bs [115, 105, 110, 116, 51, 50]), (bs [115, 105, 110, 116, 54, 52]), (bs [102, 105, 120, 101, 100, 51, 50]), (bs [102, 105, 120, 101, 100, 54, 52]), (bs [115, 102, 105, 120, 101, 100, 51, 50]), (bs [115, 102, 105, 120, 101, 100, 54, 52]), (bs [98, 111, 111, 108]), (bs [115, 116, 114, 105, 110, 103]), (bs [98, 121, 116, 101, 115]), (bs [101, 110, 117, 109]), (bs [109, 101, 115, 115, 97, 103, 101])]
def errA (i : Nat) : Value := errV (1000 + i) 0
def errL : List (Nat × List Value) := (List.range 19).map fun i => (gEL.getD i 0, [errA i])
def startL : List (Nat × List Value) := (2, wordsC) :: (24, namesC) :: errL
def WordsAt (w : World) : Prop := (∃ el, w.heap[2]? = some (.cells wordsC.toArray el (0, 0))) ∧ (∃ el, w.heap[24]? = some (.cells namesC.toArray el (0, 0)))
theorem words_kept {w w' : World} (h : WordsAt w) (hb : Below w.heap.size w w') : WordsAt w' := by
  obtain ⟨⟨e3, h3⟩, ⟨e24, h24⟩⟩ := h
  exact ⟨⟨e3, kept_obj h3 hb⟩, ⟨e24, kept_obj h24 hb⟩⟩
def rhoE (eb eo : Nat → Nat) (n : Nat) : AX.Loc := if n < 1000 then ⟨n, 0, 0⟩ else if n < 1019 then ⟨eb (n - 1000), eo (n - 1000), 0⟩ else ⟨n, 0, 0⟩
theorem rhoE_err (eb eo : Nat → Nat) (i : Nat) (hi : i < 19) : ren (rhoE eb eo) (errA i) = errV (eb i) (eo i) := by
  have : rhoE eb eo (1000 + i) = ⟨eb i, eo i, 0⟩ := by
    unfold rhoE
    rw [if_neg (by omega), if_pos (by omega)]
    simp
  simp [errA, errV, ren, renA, this]
theorem gEL_lt : ∀ i, i < 19 → gEL.getD i 0 < 1000 := by decide
theorem start_ok {w : World} {eb eo : Nat → Nat} (h : ErrsAt w eb eo) (hw : WordsAt w) : Sim (rhoE eb eo) (startH startL) w := by
  obtain ⟨⟨e3, h3⟩, ⟨e24, h24⟩⟩ := hw
  have hfree : ∀ (l : List Value), freeL l = true → (∀ v, v ∈ l → ok roB v = true) ∧ ∀ (i : Nat) v, l[i]? = some v → l.toArray[i]? = some (ren (rhoE eb eo) v) := fun l hl => by
    rw [freeL_eq, List.all_eq_true] at hl
    refine ⟨fun v hv => ok_free v (hl v hv), fun i v hi => ?_⟩
    rw [ren_free _ v (hl v (List.mem_of_getElem? hi))]
    simpa using hi
  refine start_sim (fun g hg => by unfold rhoE; rw [if_pos hg]) (fun g cs hg => ?_)
  simp only [startL, List.mem_cons, Prod.mk.injEq] at hg
  rcases hg with ⟨rfl, rfl⟩ | ⟨rfl, rfl⟩ | hg
  · obtain ⟨a1, a2⟩ := hfree wordsC rfl
    exact ⟨by decide, a1, _, _, _, h3, a2, .inl rfl⟩
  · obtain ⟨a1, a2⟩ := hfree namesC rfl
    exact ⟨by decide, a1, _, _, _, h24, a2, .inl rfl⟩
  · obtain ⟨i, hi, he⟩ := List.mem_map.1 hg
    simp only [Prod.mk.injEq] at he
    obtain ⟨rfl, rfl⟩ := he
    have hi := List.mem_range.1 hi
    obtain ⟨⟨el, h1⟩, _⟩ := h.at1 i hi
    refine ⟨gEL_lt i hi, fun v hv => ?_, _, _, _, h1, fun j v hj => ?_, .inl rfl⟩
    · simp only [List.mem_singleton] at hv; subst hv
      have : (1000 + i) < roB := by unfold roB; omega
      simp [errA, errV, ok, AX.blt_true, this]
    · cases j with
      | zero => simp only [List.getElem?_cons_zero, Option.some.injEq] at hj; subst hj; rw [rhoE_err eb eo i hi]; simp
      | succ j => simp at hj
theorem startL_lt : ∀ g cs, (g, cs) ∈ startL → g < 1000 := fun g cs hg => by
  simp only [startL, List.mem_cons, Prod.mk.injEq] at hg
  rcases hg with ⟨rfl, rfl⟩ | ⟨rfl, rfl⟩ | hg
  · decide
  · decide
  · obtain ⟨i, hi, he⟩ := List.mem_map.1 hg
    simp only [Prod.mk.injEq] at he
    obtain ⟨rfl, rfl⟩ := he
    exact gEL_lt i (List.mem_range.1 hi)
def drawF (call : AX.Call) (ops : Array Oper) (s : St) : Option St := drawX Tryz.prog call ops s
end
end Go.Proofs.YtnamakmnlagpgaaGreatDoor
