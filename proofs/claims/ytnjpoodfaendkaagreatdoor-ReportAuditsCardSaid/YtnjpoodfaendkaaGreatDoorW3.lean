import Derived.Test.YtnjpoodfaendkaaGreatDoorW1
import Derived.Lib.ItoaNum
set_option linter.unusedVariables false
set_option linter.unusedSimpArgs false
set_option linter.unusedVariables false
namespace Go.Proofs.YtnjpoodfaendkaaGreatDoor
open Go Go.RowKit

theorem dec_len (u : Nat) : (Lib.decDigits u).length ≤ u / 10 + 1 := by
  induction u using Nat.strongRecOn with
  | ind u ih =>
    rw [Lib.decDigits]
    split
    · simp
    · have := ih (u / 10) (by omega)
      simp only [List.length_append, List.length_singleton]
      omega

/-- the figures of a number; none of nought -/
def figs (u : Nat) : List UInt8 := if u = 0 then [] else Lib.decDigits u
theorem figs_step (u : Nat) (h : u ≠ 0) : figs u = figs (u / 10) ++ [UInt8.ofNat (48 + u % 10)] := by
  unfold figs
  rw [if_neg h, Lib.decDigits]
  by_cases h10 : u < 10
  · rw [dif_pos h10, if_pos (by omega)]
    have : u % 10 = u := by omega
    rw [this]; rfl
  · rw [dif_neg h10, if_neg (by omega)]
theorem figs_len (u : Nat) : (figs u).length ≤ u / 10 + 1 := by
  unfold figs
  split
  · simp
  · exact dec_len u

theorem conv1 (W : World) (x : Int) : (convert 39 9 (.slice (some ⟨W.heap.size, 0, none⟩) 1 1)).run Tryz.prog (W.alloc (.cells #[.int .u8 x] 5)) = .ok (.string ⟨[UInt8.ofNat x.toNat].toArray⟩) (W.alloc (.cells #[.int .u8 x] 5)) := by
  rw [run_convert_bytes_string _ 39 9 5 _ _ _ Tryz.underlying39 Tryz.underlying5 Tryz.underlying9]
  rw [run_bytesToString _ _ 1 1 [x] (by
    have hc : (W.alloc (.cells #[.int .u8 x] 5)).cell? ((⟨W.heap.size, 0, none⟩ : Addr).add 0) = some (.int .u8 x) := by
      show (W.alloc (.cells #[.int .u8 x] 5)).cell? ⟨W.heap.size, 0, none⟩ = _
      go_simp
    simp [loadCells, loadCellsFrom, hc])]
  rfl

set_option maxRecDepth 100000 in
set_option maxHeartbeats 4000000 in
/-- redlinenum.Figures: a number's decimal numeral. -/
theorem figures_walk (n : Int) (h0 : -9223372036854775808 ≤ n) (h1 : n ≤ 9223372036854775807) (w : World) :
    Calls Tryz.prog 16 #[.int .i64 n] w fun e w' => e = .returned (.string ⟨(Lib.itoa n).toArray⟩) ∧ Below w.heap.size w w' := by
  by_cases hz : n = 0
  · subst hz
    go_enter Tryz.func16, Tryz.ntmps16
    go_wp2
    go_ret
    exact ⟨by simp [Lib.itoa, Lib.decDigits], Below.refl _ _⟩
  · go_enter Tryz.func16, Tryz.ntmps16
    go_wp2
    go_loopw [0, 3] (fun v t wr => ∃ (m : Int) (s : List UInt8), v = .int .i64 m ∧ t = .string ⟨s.toArray⟩ ∧ (0 ≤ n → 0 ≤ m) ∧ (n < 0 → m ≤ 0) ∧ -9223372036854775808 ≤ m ∧ m ≤ 9223372036854775807 ∧
      figs m.natAbs ++ s = figs n.natAbs ∧ Below w.heap.size w wr) (fun v _ _ => (intOf v).natAbs)
    case atStart => exact ⟨n, [], rfl, rfl, fun h => h, fun h => by omega, h0, h1, by simp, Below.refl _ _⟩
    case round =>
      obtain ⟨m, s, rfl, rfl, hp, hq, hm0, hm1, hs, hb⟩ := hrel
      have hlen : s.length ≤ 9223372036854775800 := by
        have e1 : s.length ≤ (figs n.natAbs).length := by rw [← hs]; simp
        have e2 := figs_len n.natAbs
        have e3 : n.natAbs ≤ 9223372036854775808 := by omega
        omega
      by_cases hmz : m = 0
      · subst hmz
        have hdec0 : s = Lib.decDigits n.natAbs := by
          have hs0 : s = figs n.natAbs := by rw [← hs]; simp [figs]
          rw [hs0]; unfold figs; rw [if_neg (by omega)]
        have hdec : Hid (s = Lib.decDigits n.natAbs) := hdec0
        clear hdec0
        clear hs
        by_cases hneg : n < 0
        · go_wp2
          go_ret
          refine ⟨?_, hb⟩
          rw [Lib.itoa, if_pos hneg, ← hdec.out]
          rfl
        · go_wp2
          go_ret
          refine ⟨?_, hb⟩
          have : n.toNat = n.natAbs := by omega
          rw [Lib.itoa, if_neg (by omega), this, ← hdec.out]
          rfl
      · have k1 := conv1
        by_cases hpos : 0 < m
        · go_wp2
          go_roundw
          case rel =>
            refine ⟨m / 10, UInt8.ofNat (48 + m % 10).toNat :: s, rfl, rfl, by omega, by omega, by omega, by omega, ?_, hb.alloc hb.size _⟩
            rw [← hs, figs_step m.natAbs (by omega)]
            have e1 : (m / 10).natAbs = m.natAbs / 10 := by omega
            have e2 : (48 + m % 10).toNat = 48 + m.natAbs % 10 := by omega
            rw [e1, e2]; simp
          case measure => simp [intOf]; omega
        · obtain ⟨M, rfl⟩ : ∃ M : Nat, m = -(M : Int) := ⟨m.natAbs, by omega⟩
          have htm : (-(M : Int)).tmod 10 = -((M : Int) % 10) := by rw [Int.neg_tmod]; simp [Int.tmod_eq_emod_of_nonneg]
          have htd : (-(M : Int)).tdiv 10 = -((M : Int) / 10) := by rw [Int.neg_tdiv]; simp [Int.tdiv_eq_ediv_of_nonneg]
          have fin : ∀ x : UInt8, x = UInt8.ofNat (48 + M % 10) → figs (-((M : Int) / 10)).natAbs ++ x :: s = figs n.natAbs := fun x hx => by
            rw [← hs, figs_step (-(M : Int)).natAbs (by omega)]
            have e1 : (-((M : Int) / 10)).natAbs = (-(M : Int)).natAbs / 10 := by omega
            have e2 : (-(M : Int)).natAbs % 10 = M % 10 := by omega
            rw [e1, e2, hx]; simp
          have FIN : Hid _ := fin
          clear fin hs
          go_wp2
          all_goals go_roundw
          all_goals first
            | (case measure => simp [intOf]; omega)
            | skip
          · refine ⟨-((M : Int) / 10), _ :: s, rfl, rfl, by omega, by omega, by omega, by omega, FIN.out _ ?_, hb.alloc hb.size _⟩
            rw [UInt8.ofNat_add]; rfl
          · refine ⟨-((M : Int) / 10), _ :: s, rfl, rfl, by omega, by omega, by omega, by omega, FIN.out _ ?_, hb.alloc hb.size _⟩
            have e0 : (48 + -((M : Int) % 10)).toNat = 48 + M % 10 := by omega
            first
              | (rw [e0]; done)
              | (congr 1; omega)
end Go.Proofs.YtnjpoodfaendkaaGreatDoor
