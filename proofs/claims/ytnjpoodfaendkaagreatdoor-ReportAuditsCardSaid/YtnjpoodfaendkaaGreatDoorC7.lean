import Derived.Test.YtnjpoodfaendkaaGreatDoorW7
set_option linter.unusedVariables false
set_option linter.unusedSimpArgs false
set_option linter.unusedVariables false
namespace Go.Proofs.YtnjpoodfaendkaaGreatDoor
noncomputable section
open Go Go.AX Go.RowKit

/-! ### the powers' table, and what keeps it -/
def Tab20 (w : World) : Prop := ∃ el fz, w.heap[20]? = some (.cells tabC.toArray el fz)
theorem g20 : Tryz.prog.globalNamed "internal/strconv.uint64pow10" = some 20 := by kernel_rfl
theorem pow10C : (Lib.pow10Tab.map fun z => Value.int .u64 z).toArray = tabC.toArray := by kernel_rfl
theorem tab_of20 {w : World} (h : Tab20 w) : Tab w := by
  obtain ⟨el, fz, h⟩ := h
  unfold Tab Lib.TabIs World.var?
  rw [g20, Option.bind_some, h, pow10C]

def J20 (ρ : Nat → AX.Loc) (h : H) (w : World) : Prop := Tab20 w ∧ Off roB ρ h 20
theorem kept20 : KeptJ J20 := by
  intro ρ h w ρ' h' w' st ⟨⟨el, fz, ht⟩, ho⟩
  have hlt : 20 < w.heap.size := (Array.getElem?_eq_some_iff.1 ht).1
  exact ⟨⟨el, fz, by rw [st.frame 20 hlt ho]; exact ht⟩, st.img roB (Nat.le_refl _) 20 hlt ho⟩
theorem j20_start {w : World} (h : Tab20 w) : J20 (fun b => ⟨b, 0, 0⟩) h00 w := ⟨h, fun b k _ hb => by
  obtain ⟨cs, h1, _⟩ := startH_get hb
  cases h1⟩

/-! ### audit.Sound -/
section
variable (g0 g1 a2 a3 a4 a5 a6 a7 a8 a9 a10 a11 a12 a13 a14 : Int)
set_option maxRecDepth 100000 in
theorem sound_walk (w : World) : Calls Tryz.prog 15 #[repV g0 g1 a2 a3 a4 a5 a6 a7 a8 a9 a10 a11 a12 a13 a14] w fun e w' => e = .returned (.bool (a5 == a7)) ∧ Below w.heap.size w w' := by
  unfold repV
  go_enter Tryz.func15, Tryz.ntmps15
  go_wp2
  go_ret
  exact ⟨rfl, (Below.refl _ _).alloc (Nat.le_refl _) _⟩
end

/-! ### report.Audit -/
def fits (n : Int) : Prop := -9223372036854775808 ≤ n ∧ n ≤ 9223372036854775807
def D7 (b : Bool) (rv : Value) (f : FuncId) (args : Array Value) : Prop :=
  (f = 14 ∧ ∃ x n, args = #[.agg #[.string x, .int .i64 n]] ∧ x.size ≤ 1000 ∧ fits n) ∨
  (f = 15 ∧ args = #[rv] ∧ ∃ g0 g1 a2 a3 a4 a5 a6 a7 a8 a9 a10 a11 a12 a13 a14, rv = repV g0 g1 a2 a3 a4 a5 a6 a7 a8 a9 a10 a11 a12 a13 a14 ∧ (a5 == a7) = b)

theorem call7 (b : Bool) (rv : Value) : CallJ J20 Tryz.prog (D7 b rv) (callL b) := by
  intro f args h v h' hc hok hD
  unfold callL at hc
  rcases hD with ⟨rfl, x, n, rfl, hx, h0, h1⟩ | ⟨rfl, rfl, g0, g1, a2, a3, a4, a5, a6, a7, a8, a9, a10, a11, a12, a13, a14, rfl, hb⟩
  · have hc : some (Value.string (lineT x n), h) = some (v, h') := hc
    simp only [Option.some.injEq, Prod.mk.injEq] at hc
    obtain ⟨rfl, rfl⟩ := hc
    refine ⟨by simp [ok], fun ρ w s j => ?_⟩
    have e : (#[.agg #[.string x, .int .i64 n]] : Array Value).map (ren ρ) = #[.agg #[.string x, .int .i64 n]] := by simp [ren, renArr, renL]
    rw [e]
    refine (line_walk x n w hx h0 h1 (tab_of20 j.1)).mono fun e w' he => ?_
    obtain ⟨rfl, hbel⟩ := he
    obtain ⟨a1, a2⟩ := below_sim s hbel
    exact ⟨ρ, by simp [ren], a1, a2⟩
  · have hc : some (Value.bool b, h) = some (v, h') := hc
    simp only [Option.some.injEq, Prod.mk.injEq] at hc
    obtain ⟨rfl, rfl⟩ := hc
    refine ⟨by simp [ok], fun ρ w s j => ?_⟩
    have e : (#[repV g0 g1 a2 a3 a4 a5 a6 a7 a8 a9 a10 a11 a12 a13 a14] : Array Value).map (ren ρ) = #[repV g0 g1 a2 a3 a4 a5 a6 a7 a8 a9 a10 a11 a12 a13 a14] := by simp [repV, ren, renArr, renL]
    rw [e]
    refine (sound_walk g0 g1 a2 a3 a4 a5 a6 a7 a8 a9 a10 a11 a12 a13 a14 w).mono fun e w' he => ?_
    obtain ⟨rfl, hbel⟩ := he
    obtain ⟨a1, a2⟩ := below_sim s hbel
    exact ⟨ρ, by rw [hb]; simp [ren], a1, a2⟩

/-- a list of texts that a call handed back -/
def Handed (w w' : World) (e : Ending) (xs : List ByteArray) : Prop :=
  ∃ B o c, e = .returned (.slice (some ⟨B, o, none⟩) xs.length c) ∧ B < w'.heap.size ∧ (∀ (j : Nat) x, xs[j]? = some x → w'.cell? ⟨B, o + j, none⟩ = some (.string x)) ∧ Below w.heap.size w w'

theorem handed_of {r : Option (Value × H × List Ob)} {l : List Value} {lg : List Ob} {xs : List ByteArray} (ht : textsOf r = some (l, lg)) (hl : l = xs.map Value.string) :
    ∃ v h', r = some (v, h', lg) ∧ ∀ (ρ' : Nat → AX.Loc) (w w' : World) (ρ : Nat → AX.Loc), Sim ρ' h' w' → Step ρ h00 w ρ' h' w' → Handed w w' (.returned (ren ρ' v)) xs := by
  unfold textsOf at ht
  split at ht
  · rename_i b o n c h' lg'
    split at ht
    · rename_i l' hr
      simp only [Option.some.injEq, Prod.mk.injEq] at ht
      obtain ⟨rfl, rfl⟩ := ht
      refine ⟨_, h', rfl, fun ρ' w w' ρ s st => ?_⟩
      obtain ⟨hlen, hok, C, el, fz, hC, hsz, hat⟩ := s.read hr
      have hxl : xs.length = n := by rw [← hlen, hl]; simp
      refine ⟨(ρ' b).B, (ρ' b).off + o, renC ρ' b c, by simp [ren, renA, hxl], (Array.getElem?_eq_some_iff.1 hC).1, fun j x hj => ?_, start_below st (fun _ _ h => by cases h)⟩
      have h5 := hat j (.string x) (by rw [hl]; simp [hj])
      simp only [ren] at h5
      simp [World.cell?, hC, h5]
    · cases ht
  · cases ht

def textsL (ps : List (List UInt8 × Int)) (last : List UInt8) : List ByteArray := ps.map (fun p => lineT (wd p.1) p.2) ++ [wd last]

theorem fits_wrap (n : Int) : fits (IntKind.i64.wrap n) := by
  unfold fits
  simp only [IntKind.wrap, IntKind.bits, IntKind.signed]
  simp
  omega

theorem audit_walk (g0 g1 a2 a3 a4 a5 a6 a7 a8 a9 a10 a11 a12 a13 a14 : Int) (hf : fits a2 ∧ fits a3 ∧ fits a5 ∧ fits a6 ∧ fits a7 ∧ fits a8 ∧ fits a9 ∧ fits a10 ∧ fits a11 ∧ fits a12 ∧ fits a13 ∧ fits a14) (w : World) (ht : Tab20 w) :
    Calls Tryz.prog 7 #[repV g0 g1 a2 a3 a4 a5 a6 a7 a8 a9 a10 a11 a12 a13 a14] w fun e w' => Handed w w' e (textsL (pairs g0 g1 a2 a3 a4 a5 a6 a7 a8 a9 a10 a11 a12 a13 a14) (if a5 == a7 then soundL else unsoundL)) := by
  obtain ⟨f2, f3, f5, f6, f7, f8, f9, f10, f11, f12, f13, f14⟩ := hf
  have key : ∀ (b : Bool) (last : List UInt8), (a5 == a7) = b → out7 b (repV g0 g1 a2 a3 a4 a5 a6 a7 a8 a9 a10 a11 a12 a13 a14) = some ((pairs g0 g1 a2 a3 a4 a5 a6 a7 a8 a9 a10 a11 a12 a13 a14).map (fun p => lineV p.1 p.2) ++ [.string (wd last)], (pairs g0 g1 a2 a3 a4 a5 a6 a7 a8 a9 a10 a11 a12 a13 a14).map (fun p => lineO p.1 p.2) ++ [.call 15 #[repV g0 g1 a2 a3 a4 a5 a6 a7 a8 a9 a10 a11 a12 a13 a14]]) →
      Calls Tryz.prog 7 #[repV g0 g1 a2 a3 a4 a5 a6 a7 a8 a9 a10 a11 a12 a13 a14] w fun e w' => Handed w w' e (textsL (pairs g0 g1 a2 a3 a4 a5 a6 a7 a8 a9 a10 a11 a12 a13 a14) last) := by
    intro b last hb hrun
    obtain ⟨v, h', hr, hh⟩ := handed_of (xs := textsL (pairs g0 g1 a2 a3 a4 a5 a6 a7 a8 a9 a10 a11 a12 a13 a14) last) hrun (by simp [textsL, lineV])
    have hcall := funcG_okJ kept20 noNum (call7 b (repV g0 g1 a2 a3 a4 a5 a6 a7 a8 a9 a10 a11 a12 a13 a14)) hr (fun x hx => ?_) (by simp [okA_eq, repV, ok, okA, okL]) (h00_sim w) (j20_start ht)
    · have e : (#[repV g0 g1 a2 a3 a4 a5 a6 a7 a8 a9 a10 a11 a12 a13 a14] : Array Value).map (ren fun b => ⟨b, 0, 0⟩) = #[repV g0 g1 a2 a3 a4 a5 a6 a7 a8 a9 a10 a11 a12 a13 a14] := by simp [repV, ren, renArr, renL]
      rw [e] at hcall
      refine hcall.mono fun e w' he => ?_
      obtain ⟨ρ', rfl, s, st⟩ := he
      exact hh ρ' w w' _ s st
    · rcases List.mem_append.1 hx with hx | hx
      · obtain ⟨p, hp, rfl⟩ := List.mem_map.1 hx
        refine .inl ⟨rfl, wd p.1, p.2, rfl, ?_, ?_⟩
        · simp only [pairs, List.mem_cons, List.not_mem_nil, or_false] at hp
          rcases hp with rfl | rfl | rfl | rfl | rfl | rfl | rfl | rfl | rfl | rfl | rfl | rfl | rfl | rfl <;> simp [wd, ByteArray.size]
        · simp only [pairs, List.mem_cons, List.not_mem_nil, or_false] at hp
          rcases hp with rfl | rfl | rfl | rfl | rfl | rfl | rfl | rfl | rfl | rfl | rfl | rfl | rfl | rfl <;> first | exact fits_wrap _ | assumption
      · simp only [List.mem_singleton] at hx
        subst hx
        exact .inr ⟨rfl, rfl, g0, g1, a2, a3, a4, a5, a6, a7, a8, a9, a10, a11, a12, a13, a14, rfl, hb⟩
  cases hb : a5 == a7 with
  | true => exact key true soundL hb (run7t g0 g1 a2 a3 a4 a5 a6 a7 a8 a9 a10 a11 a12 a13 a14)
  | false => exact key false unsoundL hb (run7f g0 g1 a2 a3 a4 a5 a6 a7 a8 a9 a10 a11 a12 a13 a14)
end
end Go.Proofs.YtnjpoodfaendkaaGreatDoor
