import Derived.Test.YtnjpoodfaendkaaGreatDoorC7
set_option linter.unusedVariables false
set_option linter.unusedSimpArgs false
set_option linter.unusedVariables false
namespace Go.Proofs.YtnjpoodfaendkaaGreatDoor
noncomputable section
open Go Go.AX Go.RowKit

/-! ### redlineref42.Audit -/
def D8 (f : FuncId) (args : Array Value) : Prop := f = 16 ∧ ∃ n, args = #[.int .i64 n] ∧ fits n

theorem call8 : CallOn Tryz.prog D8 callR := by
  intro f args h v h' hc hok hD
  obtain ⟨rfl, n, rfl, h0, h1⟩ := hD
  have hc : some (Value.string (figT n), h) = some (v, h') := hc
  simp only [Option.some.injEq, Prod.mk.injEq] at hc
  obtain ⟨rfl, rfl⟩ := hc
  refine ⟨by simp [ok], fun ρ w s => ?_⟩
  have e : (#[.int .i64 n] : Array Value).map (ren ρ) = #[.int .i64 n] := by simp [ren]
  rw [e]
  refine (figures_walk n h0 h1 w).mono fun e w' he => ?_
  obtain ⟨rfl, hbel⟩ := he
  obtain ⟨a1, a2⟩ := below_sim s hbel
  exact ⟨ρ, by simp [ren, figT], a1, a2⟩

theorem fig_len (n : Int) (h : fits n) : (figT n).size ≤ 922337203685477590 := by
  obtain ⟨h0, h1⟩ := h
  have d1 := dec_len n.natAbs
  have d2 := dec_len n.toNat
  have : (figT n).size = (Lib.itoa n).length := by simp [figT, ByteArray.size]
  rw [this]
  unfold Lib.itoa
  split
  · simp only [List.length_cons]; omega
  · omega

theorem lineW_eq (w : List UInt8) (n : Int) : lineW w n = Value.string (lineT (wd w) n) := by
  rw [← lineT_eq]; rfl

theorem ref_walk (g0 g1 a2 a3 a4 a5 a6 a7 a8 a9 a10 a11 a12 a13 a14 : Int) (hf : fits a2 ∧ fits a3 ∧ fits a5 ∧ fits a6 ∧ fits a7 ∧ fits a8 ∧ fits a9 ∧ fits a10 ∧ fits a11 ∧ fits a12 ∧ fits a13 ∧ fits a14) (w : World) :
    Calls Tryz.prog 8 #[repV g0 g1 a2 a3 a4 a5 a6 a7 a8 a9 a10 a11 a12 a13 a14] w fun e w' => Handed w w' e (textsL (pairs g0 g1 a2 a3 a4 a5 a6 a7 a8 a9 a10 a11 a12 a13 a14) (if a5 == a7 then soundL else unsoundL)) := by
  obtain ⟨f2, f3, f5, f6, f7, f8, f9, f10, f11, f12, f13, f14⟩ := hf
  have key : ∀ (b : Bool) (last : List UInt8), (!(a5 == a7)) = b → out8 b (repV g0 g1 a2 a3 a4 a5 a6 a7 a8 a9 a10 a11 a12 a13 a14) = some ((pairs g0 g1 a2 a3 a4 a5 a6 a7 a8 a9 a10 a11 a12 a13 a14).map (fun p => lineW p.1 p.2) ++ [.string (wd last)], (pairs g0 g1 a2 a3 a4 a5 a6 a7 a8 a9 a10 a11 a12 a13 a14).flatMap (fun p => [.add (wd p.1) (wd [32]), figO p.2, .add (wd p.1 ++ wd [32]) (figT p.2)]) ++ [.val (some (.bool (!(a5 == a7)))) (.bool b)]) →
      Calls Tryz.prog 8 #[repV g0 g1 a2 a3 a4 a5 a6 a7 a8 a9 a10 a11 a12 a13 a14] w fun e w' => Handed w w' e (textsL (pairs g0 g1 a2 a3 a4 a5 a6 a7 a8 a9 a10 a11 a12 a13 a14) last) := by
    intro b last hb hrun
    obtain ⟨v, h', hr, hh⟩ := handed_of (xs := textsL (pairs g0 g1 a2 a3 a4 a5 a6 a7 a8 a9 a10 a11 a12 a13 a14) last) hrun (by simp [textsL, lineW_eq])
    have hcall := funcG_ok noNum call8 hr (fun x hx => ?_) (by simp [repV, ok, okA, okL]) (h00_sim w)
    · have e : (#[repV g0 g1 a2 a3 a4 a5 a6 a7 a8 a9 a10 a11 a12 a13 a14] : Array Value).map (ren fun b => ⟨b, 0, 0⟩) = #[repV g0 g1 a2 a3 a4 a5 a6 a7 a8 a9 a10 a11 a12 a13 a14] := by simp [repV, ren, renArr, renL]
      rw [e] at hcall
      refine hcall.mono fun e w' he => ?_
      obtain ⟨ρ', rfl, s, st⟩ := he
      exact hh ρ' w w' _ s st
    · rcases List.mem_append.1 hx with hx | hx
      · obtain ⟨p, hp, hx⟩ := List.mem_flatMap.1 hx
        have hsz : (wd p.1).size ≤ 1000 := by
          simp only [pairs, List.mem_cons, List.not_mem_nil, or_false] at hp
          rcases hp with rfl | rfl | rfl | rfl | rfl | rfl | rfl | rfl | rfl | rfl | rfl | rfl | rfl | rfl <;> simp [wd, ByteArray.size]
        have hft : fits p.2 := by
          simp only [pairs, List.mem_cons, List.not_mem_nil, or_false] at hp
          rcases hp with rfl | rfl | rfl | rfl | rfl | rfl | rfl | rfl | rfl | rfl | rfl | rfl | rfl | rfl <;> first | exact fits_wrap _ | assumption
        have h32 : (wd [32]).size = 1 := rfl
        simp only [List.mem_cons, List.not_mem_nil, or_false] at hx
        rcases hx with rfl | rfl | rfl
        · show (wd p.1).size + (wd [32]).size ≤ 9223372036854775807
          omega
        · exact ⟨rfl, p.2, rfl, hft⟩
        · show (wd p.1 ++ wd [32]).size + (figT p.2).size ≤ 9223372036854775807
          have := fig_len p.2 hft
          rw [ByteArray.size_append]
          omega
      · simp only [List.mem_singleton] at hx
        subst hx
        show some (Value.bool (!(a5 == a7))) = some (.bool b)
        rw [hb]
  cases hb : a5 == a7 with
  | true => exact key false soundL (by rw [hb]; rfl) (run8f g0 g1 a2 a3 a4 a5 a6 a7 a8 a9 a10 a11 a12 a13 a14)
  | false => exact key true unsoundL (by rw [hb]; rfl) (run8t g0 g1 a2 a3 a4 a5 a6 a7 a8 a9 a10 a11 a12 a13 a14)

/-! ### redlinelaw41.Of -/
theorem of_walk (g0 g1 a2 a3 a4 a5 a6 a7 a8 a9 a10 a11 a12 a13 a14 : Int) (w : World) :
    Calls Tryz.prog 9 #[repV g0 g1 a2 a3 a4 a5 a6 a7 a8 a9 a10 a11 a12 a13 a14] w fun e w' => e = .returned (repV g0 g1 a2 a3 a4 a5 a6 a7 a8 a9 a10 a11 a12 a13 a14) ∧ Below w.heap.size w w' := by
  have hrun := run9 g0 g1 a2 a3 a4 a5 a6 a7 a8 a9 a10 a11 a12 a13 a14
  unfold out9 at hrun
  split at hrun
  · rename_i v h' lg hr
    simp only [Option.some.injEq, Prod.mk.injEq] at hrun
    obtain ⟨rfl, rfl⟩ := hrun
    have hcall := funcG_ok noNum call8 hr (fun x hx => by cases hx) (by simp [repV, ok, okA, okL]) (h00_sim w)
    have e : ∀ ρ : Nat → AX.Loc, ren ρ (repV g0 g1 a2 a3 a4 a5 a6 a7 a8 a9 a10 a11 a12 a13 a14) = repV g0 g1 a2 a3 a4 a5 a6 a7 a8 a9 a10 a11 a12 a13 a14 := fun ρ => by simp [repV, ren, renArr, renL]
    have e2 : (#[repV g0 g1 a2 a3 a4 a5 a6 a7 a8 a9 a10 a11 a12 a13 a14] : Array Value).map (ren fun b => ⟨b, 0, 0⟩) = #[repV g0 g1 a2 a3 a4 a5 a6 a7 a8 a9 a10 a11 a12 a13 a14] := by simp [e]
    rw [e2] at hcall
    refine hcall.mono fun e' w' he => ?_
    obtain ⟨ρ', rfl, s, st⟩ := he
    exact ⟨by rw [e], h00_below st⟩
  · cases hrun
end
end Go.Proofs.YtnjpoodfaendkaaGreatDoor
