import Derived.Test.YtnjpoodfaendkaaGreatDoorLaid
import Derived.Test.YtnjpoodfaendkaaGreatDoorRec
import Derived.Test.YtnjpoodfaendkaaGreatDoorMet
set_option linter.unusedVariables false
set_option linter.unusedSimpArgs false
set_option linter.unusedVariables false
namespace Go.Proofs.YtnjpoodfaendkaaGreatDoor
open Go.ChangeShapes Go.WideShapes Go.ChangeAt Go.WideMaps Go.WideElems Go.RowKit

noncomputable def arg0 : Value := .agg #[.int .u32 0, .int .u32 0, .int .i64 0, .int .i64 0, .int .i64 0, .int .i64 0, .int .i64 0, .int .i64 0, .int .i64 0, .int .i64 0, .int .i64 0, .int .i64 0, .int .i64 0, .int .i64 0, .int .i64 0]

set_option maxRecDepth 1000000 in
theorem witness (os : Os) (H : Type) (enc : TypeId × Value → H) : ∃ (w : World) (tape : Tape) (i : Input), w.os = os ∧ (w.forCall tape i).Shaped Tryz.checked.prog ∧ i.vars = [] ∧ Input.okWide Tryz.checked.prog (w.forCall tape i) .any w.heap.size 3 i ∧
      ((Rows.reportAuditsSpec.pre enc Tryz.checked.prog Tryz.f3 [] false (w.forCall tape i).memory i.args ∧ laidMetH Tryz.prog Rows.reportAuditsRow.laid (w.forCall tape i).memory) ∧ sizedMet enc Tryz.checked.prog Tryz.f3 (OpenSpec.ofChange Rows.reportAuditsSpec) false (w.forCall tape i).memory i.args) ∧ ({} : Assume).holds Tryz.checked.prog (lone (Frame.enter Tryz.checked.prog 3 i.args .normal) [] (w.forCall tape i)) :=
  ChangeSpec.witness_shaped (enc := enc) (C := Tryz.checked) (os := os) (X := fun w _ => laidMetH Tryz.prog Rows.reportAuditsRow.laid w) false (World.doorLaid Tryz.prog 433 os) #[arg0, .slice none 0 0] 8 rfl (World.shaped_of_RefB (by kernel_rfl) (by kernel_rfl)) (by kernel_rfl) (by kernel_rfl) (by kernel_rfl) (door_met os _)
end Go.Proofs.YtnjpoodfaendkaaGreatDoor

set_option linter.unusedVariables false
namespace Go.Proofs.YtnjpoodfaendkaaGreatDoor
open Go.ChangeShapes Go.WideShapes Go.ChangeAt Go.WideMaps Go.WideElems Go.RowKit

set_option maxRecDepth 1000000 in
theorem lifted (os : Os) (started : os.Started) (H : Type) (enc : TypeId × Value → H) :
    ReturnsInHanded {} Tryz.checked os 3 .any (fun w args => (Rows.reportAuditsSpec.pre enc Tryz.prog Tryz.f3 [] false w args ∧ laidMetH Tryz.prog Rows.reportAuditsRow.laid w) ∧ sizedMet enc Tryz.prog Tryz.f3 (OpenSpec.ofChange Rows.reportAuditsSpec) false w args)
      (Rows.reportAuditsSpec.post enc Tryz.prog Tryz.f3 false true false false) := by
  refine returnsInHanded_of_change_and (C := Tryz.checked) (X := fun w _ => laidMetH Tryz.prog Rows.reportAuditsRow.laid w) (fun _ _ _ hh h => h.of_heap hh) own started (by kernel_rfl) Tryz.func3
    (witness os H enc) ?_
  intro W base args ds gs before hval0 hW _ _ hL _
  have hval : ∀ (j : Nat) t v, Tryz.f3.params[j]? = some t → args[j]? = some v → Value.okWide Tryz.prog W .any base t v := hval0
  have hW' := hW
  obtain ⟨p, q, hA0, hV, rfl, hfz, hnd⟩ := hW
  have hA : DataW.TrodAll enc Tryz.prog W 0 (fun _ => true) true Tryz.f3.params.toList args.toList ds p := hA0
  rw [Tryz.params3] at hA hval
  obtain ⟨v0, v1, d0, d1, p0, p1, rfl, rfl, rfl, h0, h1⟩ := trodAll_two hA
  obtain ⟨rfl, rfl⟩ := trodVars_none hV
  obtain ⟨hwords, htab⟩ := start_of hL
  obtain ⟨g0, g1, a2, a3, a4, a5, a6, a7, a8, a9, a10, a11, a12, a13, a14, hrep, hfit⟩ := open_rep (hval 0 26 v0 rfl rfl) h0
  obtain ⟨A0, len, cap, rfl⟩ := okWide_slice Tryz.underlying27 (hval 1 27 v1 rfl rfl)
  have h1k := h1
  obtain ⟨fuel, hf⟩ := h1
  clear hA0 hval0
  simp only [List.append_nil] at hW'
  have hlt : ∀ x ∈ p0 ++ p1, x.block < W.heap.size := fun x hx => by simpa using hW'.lt x hx
  have fin : ∀ W' : World, Below W.heap.size W W' → Rows.reportAuditsSpec.post enc Tryz.checked.prog Tryz.f3 false true false false W #[v0, .slice A0 len cap] (.bool true) W' := by
    intro W' hnx
    refine ⟨_, _, _, [], p0 ++ p1, [], hW', ?_, ?_, rfl, hnx.frame _, fun h => by cases h⟩
    · exact trodAll_mk1 (shut_bool Tryz.underlying4 true)
    · exact trodAll_mk2 (Below.trod laidOut rec26 (of_decide_eq_true (by kernel_rfl)) h0 hnx fun x hx => hlt x (by simp [hx])) (Below.trod laidOut rec27 (of_decide_eq_true (by kernel_rfl)) h1k hnx fun x hx => hlt x (by simp [hx]))
  have go : ∀ xs : List ByteArray, SliceAt W A0 len xs → len ≤ 9223372036854775807 → (∀ x ∈ xs, x.size ≤ 9223372036854775807) →
      Calls Tryz.checked.prog 3 #[v0, .slice A0 len cap] W fun e W' => ∃ v, e = Ending.returned v ∧ Rows.reportAuditsSpec.post enc Tryz.checked.prog Tryz.f3 false true false false W #[v0, .slice A0 len cap] v W' := by
    intro xs hS hm hsz
    have h := report_walk g0 g1 a2 a3 a4 a5 a6 a7 a8 a9 a10 a11 a12 a13 a14 hfit A0 cap len xs W hS hm hsz hwords htab
    rw [← hrep] at h
    refine h.mono fun e W' he => ?_
    obtain ⟨rfl, hb⟩ := he
    exact ⟨_, rfl, fin W' hb⟩
  rcases open_strings Tryz.underlying27 Tryz.underlying9 cells9' hf with ⟨hcs, hx⟩ | ⟨a, len', cap', ss, hcs, _, hl, hm, hz, hx, hcell, hws⟩
  · simp [Value.cells] at hcs
    obtain ⟨rfl, rfl, rfl⟩ := hcs
    exact go [] ⟨rfl, .inl rfl⟩ (by decide) (fun x hx => by cases hx)
  · simp [Value.cells] at hcs
    obtain ⟨rfl, rfl, rfl⟩ := hcs
    simp only [Prod.mk.injEq] at hx
    simp only [if_true] at hz
    have hmax : maxLen ≤ 9223372036854775807 := by unfold maxLen; omega
    refine go (ss.take len) ⟨by rw [List.length_take]; omega, ?_⟩ (by omega) (fun x hx => Nat.le_trans (hws x (List.mem_of_mem_take hx)) hmax)
    by_cases hl0 : len = 0
    · exact .inl hl0
    · right
      obtain ⟨b, off, spot⟩ := a
      have hspot : spot = none := by simpa [Addr.add] using World.cell?_spot (hcell 0 (by omega))
      subst hspot
      have hbW : b < W.heap.size := hlt (.cell b off) (List.mem_append_right _ (by rw [hx.2]; exact MemPlace.mem_row.2 ⟨0, by omega, by simp⟩))
      refine ⟨b, off, rfl, hbW, fun j x hj => ?_⟩
      have hjl : j < len := by
        have := (List.getElem?_eq_some_iff.1 hj).1
        rw [List.length_take] at this
        omega
      have hx2 : ss.getD j ByteArray.empty = x := by
        rw [List.getElem?_take_of_lt hjl] at hj
        simp [List.getD, hj]
      rw [← hx2, ← add_plain]
      exact hcell j (by omega)

end Go.Proofs.YtnjpoodfaendkaaGreatDoor
