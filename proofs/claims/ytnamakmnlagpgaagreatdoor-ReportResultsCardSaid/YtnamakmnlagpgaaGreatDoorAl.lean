import Derived.Test.YtnamakmnlagpgaaGreatDoorNum
import Derived.Test.YtnamakmnlagpgaaGreatDoorExt
set_option linter.unusedVariables false
set_option linter.unusedSimpArgs false
namespace Go.Proofs.YtnamakmnlagpgaaGreatDoor
noncomputable section
open Go Go.AX Go.RowKit

/-! ### the chapter's example: a closed run -/
def isTrue (r : Option (Value × H)) : Bool := match r with
  | some (.bool b, _) => b
  | _ => false

set_option maxHeartbeats 0 in
theorem run4 : isTrue (callsA Tryz.prog drawF extA 100000 2000 4 #[] (startH startL)) = true := by decide +kernel

theorem alive_walk (w : World) {eb eo : Nat → Nat} (he : ErrsAt w eb eo) (hw : WordsAt w) : Calls Tryz.prog 4 #[] w fun e w' => e = .returned (.bool true) ∧ Below w.heap.size w w' := by
  have hr := run4
  unfold isTrue at hr
  split at hr
  · rename_i b h' hc
    subst hr
    rw [callsA_eq] at hc
    have hcall := ((calls_ok noNum (fun call hc => regF_ok (draw_ok (P := Tryz.prog)) call hc) extA_ok 100000 2000).2 4 #[] (startH startL) _ h' hc (by simp [okA_eq])).2 (rhoE eb eo) w (start_ok he hw)
    have e : (#[] : Array Value).map (ren (rhoE eb eo)) = #[] := by simp
    rw [e] at hcall
    refine hcall.mono fun e w' he => ?_
    obtain ⟨ρ', rfl, s, st⟩ := he
    exact ⟨by simp [ren], start_below st startL_lt⟩
  · cases hr
end
end Go.Proofs.YtnamakmnlagpgaaGreatDoor
