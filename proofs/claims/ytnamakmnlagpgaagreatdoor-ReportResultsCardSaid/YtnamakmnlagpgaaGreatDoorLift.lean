import Derived.Test.YtnamakmnlagpgaaGreatDoorMet
import Derived.Test.YtnamakmnlagpgaaGreatDoorLaid
import Derived.Test.YtnamakmnlagpgaaGreatDoorLo
import Derived.Test.YtnamakmnlagpgaaGreatDoorLaw
set_option linter.unusedVariables false
set_option linter.unusedSimpArgs false
namespace Go.Proofs.YtnamakmnlagpgaaGreatDoor
open Go Go.ChangeShapes Go.WideShapes Go.ChangeAt Go.WideMaps Go.WideElems Go.RowKit

set_option maxRecDepth 1000000 in
theorem lifted (os : Os) (started : os.Started) (H : Type) (enc : TypeId × Value → H) :
    ReturnsInHanded {} Tryz.checked os 3 .any (fun w args => (Rows.reportResultsSpec.pre enc Tryz.prog Tryz.f3 [] false w args ∧ laidMetH Tryz.prog Rows.reportResultsRow.laid w) ∧ sizedMet enc Tryz.prog Tryz.f3 (OpenSpec.ofChange Rows.reportResultsSpec) false w args)
      (Rows.reportResultsSpec.post enc Tryz.prog Tryz.f3 false true false false) := by
  refine returnsInHanded_of_change_and (C := Tryz.checked) (X := fun w _ => laidMetH Tryz.prog Rows.reportResultsRow.laid w) (fun _ _ _ hh h => h.of_heap hh) own started (by kernel_rfl) Tryz.func3
    (witness os H enc) ?_
  intro W base args ds gs before hval0 hW _ _ hL _
  have hval : ∀ (j : Nat) t v, Tryz.f3.params[j]? = some t → args[j]? = some v → Value.okWide Tryz.prog W .any base t v := hval0
  have hW' := hW
  obtain ⟨p, q, hA0, hV, rfl, hfz, hnd⟩ := hW
  have hA : DataW.TrodAll enc Tryz.prog W 0 (fun _ => true) true Tryz.f3.params.toList args.toList ds p := hA0
  rw [Tryz.params3] at hA hval
  obtain ⟨v0, d0, rfl, rfl, h0⟩ := trodAll_one hA
  obtain ⟨rfl, rfl⟩ := trodVars_none hV
  obtain ⟨⟨eb, eo, herr⟩, hwords, htab⟩ := start_of hL
  have h0k := h0
  obtain ⟨A0, len, cap, rfl⟩ := okWide_slice Tryz.underlying22 (hval 0 22 v0 rfl rfl)
  obtain ⟨fuel, hf⟩ := h0
  clear hA0 hval0
  simp only [List.append_nil] at hW'
  have hlt : ∀ x ∈ p, x.block < W.heap.size := fun x hx => by simpa using hW'.lt x hx
  have fin : ∀ W' : World, Below W.heap.size W W' → Rows.reportResultsSpec.post enc Tryz.checked.prog Tryz.f3 false true false false W #[.slice A0 len cap] (.bool true) W' := by
    intro W' hnx
    refine ⟨_, _, _, [], p, [], hW', ?_, ?_, rfl, hnx.frame _, fun h => by cases h⟩
    · exact trodAll_mk1 (shut_bool Tryz.underlying4 true)
    · exact trodAll_mk1 (Below.trod laidOut rec22 (of_decide_eq_true (by kernel_rfl)) h0k hnx fun x hx => hlt x hx)
  have go : Calls Tryz.prog 3 #[.slice A0 len cap] W fun e W' => e = .returned (.bool true) ∧ Below W.heap.size W W' := by
    have hf' : DataW.trod enc Tryz.prog W 0 (fun _ => true) true fuel 22 [.slice A0 len cap] = some (d0, p) := hf
    rcases open_rows hf' with ⟨A, c, hv⟩ | ⟨b, o, c, its, hv, hl, hb, hc⟩
    · simp only [Value.slice.injEq] at hv
      obtain ⟨rfl, rfl, rfl⟩ := hv
      exact law0_walk _ _ W hwords herr htab
    · simp only [Value.slice.injEq] at hv
      obtain ⟨rfl, rfl, rfl⟩ := hv
      exact law_walk b o its.length _ its rfl hl W hwords herr htab hb hc
  refine go.mono fun e W' he => ?_
  obtain ⟨rfl, hb⟩ := he
  exact ⟨_, rfl, fin W' hb⟩
end Go.Proofs.YtnamakmnlagpgaaGreatDoor
