import Derived.Test.YtnamakmnlagpgaaGreatDoorNum
import Derived.WalkKit
import Derived.LoopTactic
import Derived.Outline
import Derived.Deep.RegionWith
import Derived.Deep.QuietTactic
import Derived.BigQuiet
import Derived.Lib.ItoaNum
set_option linter.unusedVariables false
set_option linter.unusedSimpArgs false
namespace Go.Proofs.YtnamakmnlagpgaaGreatDoor
open Go Go.RowKit

def longB (m z : Nat) (xs : List ByteArray) : Bool := decide (m < xs.length) || xs.any fun x => decide (z < x.size)

theorem any_take_succ {xs : List ByteArray} {k : Nat} (h : k < xs.length) (f : ByteArray → Bool) : (xs.take (k + 1)).any f = ((xs.take k).any f || f xs[k]) := by
  rw [List.take_add_one, List.any_append]
  simp [List.getElem?_eq_getElem h]

/-- redlinenum.Long at texts that are few and short: no; at others: yes. -/
theorem long_walk (m z b o c n : Nat) (xs : List ByteArray) (w : World) (hn : xs.length = n) (hc : ∀ (j : Nat) x, xs[j]? = some x → w.cell? ⟨b, o + j, none⟩ = some (.string x)) (hm : n ≤ 9223372036854775807) (hm0 : m ≤ 1000000) (hz0 : z ≤ 1000000) (hsz : ∀ x ∈ xs, x.size ≤ 9223372036854775807) :
    Calls Tryz.prog 5 #[.slice (some ⟨b, o, none⟩) n c, .int .i64 m, .int .i64 z] w fun e w' => e = .returned (.bool (longB m z xs)) ∧ w' = w := by
  have hn' : xs.length = n := hn
  by_cases h40 : m < n
  · go_enter Tryz.func5, Tryz.ntmps5
    go_wp2
    all_goals go_ret
    all_goals (refine ⟨?_, rfl⟩; simp [longB, hn', h40])
  · go_enter Tryz.func5, Tryz.ntmps5
    go_wp2
    go_loop [15] (fun i => ∃ k : Nat, k ≤ n ∧ i = .int .i64 k ∧ (xs.take k).any (fun x => decide (z < x.size)) = false) (fun i => n - (intOf i).toNat)
    case atStart => exact ⟨0, Nat.zero_le _, rfl, by simp⟩
    case round =>
      obtain ⟨k, hk, rfl, hany⟩ := hrel
      by_cases hlt : k < n
      · have hl : k < xs.length := by omega
        have hcell := hc k xs[k] (List.getElem?_eq_getElem hl)
        have hs := hsz xs[k] (List.getElem_mem hl)
        generalize hx : xs[k] = x at hcell hs
        have hnext := any_take_succ hl (fun x => decide (z < x.size))
        rw [hany, hx] at hnext
        go_wp2
        · go_ret
          refine ⟨?_, rfl⟩
          have h200 : z < x.size := by omega
          have : xs.any (fun x => decide (z < x.size)) = true := List.any_eq_true.2 ⟨x, by rw [← hx]; exact List.getElem_mem hl, by simpa using h200⟩
          simp [longB, this]
        · go_round
          case rel =>
            refine ⟨k + 1, by omega, by go_num, ?_⟩
            have h200 : ¬ z < x.size := by omega
            rw [hnext]; simp [h200]
          case measure => simp [intOf]; omega
      · have : k = n := by omega
        subst this
        go_wp2
        go_ret
        refine ⟨?_, rfl⟩
        rw [← hn', List.take_length] at hany
        simp [longB, hn', h40, hany]
end Go.Proofs.YtnamakmnlagpgaaGreatDoor

namespace Go.Proofs.YtnamakmnlagpgaaGreatDoor
open Go Go.RowKit

/-- redlinenum.SameTexts at two lists that are alike. -/
theorem same_walk (b o c b' o' c' n : Nat) (xs : List ByteArray) (w : World) (hn : xs.length = n) (hm : n ≤ 9223372036854775807)
    (hc : ∀ (j : Nat) x, xs[j]? = some x → w.cell? ⟨b, o + j, none⟩ = some (.string x)) (hc' : ∀ (j : Nat) x, xs[j]? = some x → w.cell? ⟨b', o' + j, none⟩ = some (.string x)) :
    Calls Tryz.prog 10 #[.slice (some ⟨b, o, none⟩) n c, .slice (some ⟨b', o', none⟩) n c'] w fun e w' => e = .returned (.bool true) ∧ ∃ m, w' = w.drewN m := by
  go_enter Tryz.func10, Tryz.ntmps10
  go_wp2
  go_loopw [13] (fun i wr => ∃ k m : Nat, k ≤ n ∧ i = .int .i64 k ∧ wr = w.drewN m) (fun i _ => n - (intOf i).toNat)
  case atStart => exact ⟨0, 0, Nat.zero_le _, rfl, rfl⟩
  case round =>
    obtain ⟨k, m, hk, rfl, rfl⟩ := hrel
    by_cases hlt : k < n
    · have hl : k < xs.length := by omega
      have hb : (k : Int) < (n : Int) := by omega
      have hb0 : (0 : Int) ≤ (k : Int) := by omega
      have h1 : w.cell? ⟨b, o + k, none⟩ = some (.string xs[k]) := hc k xs[k] (List.getElem?_eq_getElem hl)
      have h2 : w.cell? ⟨b', o' + k, none⟩ = some (.string xs[k]) := hc' k xs[k] (List.getElem?_eq_getElem hl)
      generalize hx : xs[k] = x at h1 h2
      clear hc hc'
      go_wp2
      go_quiet (fail)
      go_wp2
      go_roundw
      case rel => exact ⟨k + 1, m + nq, by omega, by go_num, by simp [World.drewN_drewN]⟩
      case measure => simp [intOf]; omega
    · have : k = n := by omega
      subst this
      go_wp2
      go_ret
      exact ⟨rfl, m, rfl⟩
end Go.Proofs.YtnamakmnlagpgaaGreatDoor

namespace Go.Proofs.YtnamakmnlagpgaaGreatDoor
open Go Go.RowKit

theorem dec_len (u : Nat) : (Lib.decDigits u).length ≤ u / 10 + 1 := by
  induction u using Nat.strongRecOn with
  | ind u ih =>
    rw [Lib.decDigits]
    split
    · simp
    · have := ih (u / 10) (by omega)
      simp only [List.length_append, List.length_singleton]
      omega

/-- the figures of a number; none of nought -/
def figs (u : Nat) : List UInt8 := if u = 0 then [] else Lib.decDigits u
theorem figs_step (u : Nat) (h : u ≠ 0) : figs u = figs (u / 10) ++ [UInt8.ofNat (48 + u % 10)] := by
  unfold figs
  rw [if_neg h, Lib.decDigits]
  by_cases h10 : u < 10
  · rw [dif_pos h10, if_pos (by omega)]
    have : u % 10 = u := by omega
    rw [this]; rfl
  · rw [dif_neg h10, if_neg (by omega)]
theorem figs_len (u : Nat) : (figs u).length ≤ u / 10 + 1 := by
  unfold figs
  split
  · simp
  · exact dec_len u

theorem conv1 (W : World) (x : Int) : (convert 26 9 (.slice (some ⟨W.heap.size, 0, none⟩) 1 1)).run Tryz.prog (W.alloc (.cells #[.int .u8 x] 5)) = .ok (.string ⟨[UInt8.ofNat x.toNat].toArray⟩) (W.alloc (.cells #[.int .u8 x] 5)) := by
  rw [run_convert_bytes_string _ 26 9 5 _ _ _ Tryz.underlying26 Tryz.underlying5 Tryz.underlying9]
  rw [run_bytesToString _ _ 1 1 [x] (by
    have hc : (W.alloc (.cells #[.int .u8 x] 5)).cell? ((⟨W.heap.size, 0, none⟩ : Addr).add 0) = some (.int .u8 x) := by
      show (W.alloc (.cells #[.int .u8 x] 5)).cell? ⟨W.heap.size, 0, none⟩ = _
      go_simp
    simp [loadCells, loadCellsFrom, hc])]
  rfl

set_option maxRecDepth 100000 in
set_option maxHeartbeats 4000000 in
/-- redlinenum.Figures: a number's decimal numeral. -/
theorem figures_walk (n : Int) (h0 : -9223372036854775808 ≤ n) (h1 : n ≤ 9223372036854775807) (w : World) :
    Calls Tryz.prog 16 #[.int .i64 n] w fun e w' => e = .returned (.string ⟨(Lib.itoa n).toArray⟩) ∧ Below w.heap.size w w' := by
  by_cases hz : n = 0
  · subst hz
    go_enter Tryz.func16, Tryz.ntmps16
    go_wp2
    go_ret
    exact ⟨by simp [Lib.itoa, Lib.decDigits], Below.refl _ _⟩
  · go_enter Tryz.func16, Tryz.ntmps16
    go_wp2
    go_loopw [0, 3] (fun v t wr => ∃ (m : Int) (s : List UInt8), v = .int .i64 m ∧ t = .string ⟨s.toArray⟩ ∧ (0 ≤ n → 0 ≤ m) ∧ (n < 0 → m ≤ 0) ∧ -9223372036854775808 ≤ m ∧ m ≤ 9223372036854775807 ∧
      figs m.natAbs ++ s = figs n.natAbs ∧ Below w.heap.size w wr) (fun v _ _ => (intOf v).natAbs)
    case atStart => exact ⟨n, [], rfl, rfl, fun h => h, fun h => by omega, h0, h1, by simp, Below.refl _ _⟩
    case round =>
      obtain ⟨m, s, rfl, rfl, hp, hq, hm0, hm1, hs, hb⟩ := hrel
      have hlen : s.length ≤ 9223372036854775800 := by
        have e1 : s.length ≤ (figs n.natAbs).length := by rw [← hs]; simp
        have e2 := figs_len n.natAbs
        have e3 : n.natAbs ≤ 9223372036854775808 := by omega
        omega
      by_cases hmz : m = 0
      · subst hmz
        have hdec0 : s = Lib.decDigits n.natAbs := by
          have hs0 : s = figs n.natAbs := by rw [← hs]; simp [figs]
          rw [hs0]; unfold figs; rw [if_neg (by omega)]
        have hdec : Hid (s = Lib.decDigits n.natAbs) := hdec0
        clear hdec0
        clear hs
        by_cases hneg : n < 0
        · go_wp2
          go_ret
          refine ⟨?_, hb⟩
          rw [Lib.itoa, if_pos hneg, ← hdec.out]
          rfl
        · go_wp2
          go_ret
          refine ⟨?_, hb⟩
          have : n.toNat = n.natAbs := by omega
          rw [Lib.itoa, if_neg (by omega), this, ← hdec.out]
          rfl
      · have k1 := conv1
        by_cases hpos : 0 < m
        · go_wp2
          go_roundw
          case rel =>
            refine ⟨m / 10, UInt8.ofNat (48 + m % 10).toNat :: s, rfl, rfl, by omega, by omega, by omega, by omega, ?_, hb.alloc hb.size _⟩
            rw [← hs, figs_step m.natAbs (by omega)]
            have e1 : (m / 10).natAbs = m.natAbs / 10 := by omega
            have e2 : (48 + m % 10).toNat = 48 + m.natAbs % 10 := by omega
            rw [e1, e2]; simp
          case measure => simp [intOf]; omega
        · obtain ⟨M, rfl⟩ : ∃ M : Nat, m = -(M : Int) := ⟨m.natAbs, by omega⟩
          have htm : (-(M : Int)).tmod 10 = -((M : Int) % 10) := by rw [Int.neg_tmod]; simp [Int.tmod_eq_emod_of_nonneg]
          have htd : (-(M : Int)).tdiv 10 = -((M : Int) / 10) := by rw [Int.neg_tdiv]; simp [Int.tdiv_eq_ediv_of_nonneg]
          have fin : ∀ x : UInt8, x = UInt8.ofNat (48 + M % 10) → figs (-((M : Int) / 10)).natAbs ++ x :: s = figs n.natAbs := fun x hx => by
            rw [← hs, figs_step (-(M : Int)).natAbs (by omega)]
            have e1 : (-((M : Int) / 10)).natAbs = (-(M : Int)).natAbs / 10 := by omega
            have e2 : (-(M : Int)).natAbs % 10 = M % 10 := by omega
            rw [e1, e2, hx]; simp
          have FIN : Hid _ := fin
          clear fin hs
          go_wp2
          all_goals go_roundw
          all_goals first
            | (case measure => simp [intOf]; omega)
            | skip
          · refine ⟨-((M : Int) / 10), _ :: s, rfl, rfl, by omega, by omega, by omega, by omega, FIN.out _ ?_, hb.alloc hb.size _⟩
            rw [UInt8.ofNat_add]; rfl
          · refine ⟨-((M : Int) / 10), _ :: s, rfl, rfl, by omega, by omega, by omega, by omega, FIN.out _ ?_, hb.alloc hb.size _⟩
            have e0 : (48 + -((M : Int) % 10)).toNat = 48 + M % 10 := by omega
            first
              | (rw [e0]; done)
              | (congr 1; omega)
end Go.Proofs.YtnamakmnlagpgaaGreatDoor
