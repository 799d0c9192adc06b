import Derived.Test.YtnjpoodfaendkaaGreatDoorExt
import Derived.WalkKit
import Derived.LoopTactic
import Derived.Outline
import Derived.Deep.RegionWith
import Derived.Deep.QuietTactic
import Derived.BigQuiet
set_option linter.unusedVariables false
set_option linter.unusedSimpArgs false
set_option linter.unusedVariables false
namespace Go.Proofs.YtnjpoodfaendkaaGreatDoor
open Go Go.RowKit

def longB (xs : List ByteArray) : Bool := decide (40 < xs.length) || xs.any fun x => decide (200 < x.size)

theorem any_take_succ {xs : List ByteArray} {k : Nat} (h : k < xs.length) (f : ByteArray → Bool) : (xs.take (k + 1)).any f = ((xs.take k).any f || f xs[k]) := by
  rw [List.take_add_one, List.any_append]
  simp [List.getElem?_eq_getElem h]

/-- redlinenum.Long at texts that are few and short: no; at others: yes. -/
theorem long_walk (b o c n : Nat) (xs : List ByteArray) (w : World) (hn : xs.length = n) (hc : ∀ (j : Nat) x, xs[j]? = some x → w.cell? ⟨b, o + j, none⟩ = some (.string x)) (hm : n ≤ 9223372036854775807) (hsz : ∀ x ∈ xs, x.size ≤ 9223372036854775807) :
    Calls Tryz.prog 5 #[.slice (some ⟨b, o, none⟩) n c, .int .i64 40, .int .i64 200] w fun e w' => e = .returned (.bool (longB xs)) ∧ w' = w := by
  have hn' : xs.length = n := hn
  by_cases h40 : 40 < n
  · go_enter Tryz.func5, Tryz.ntmps5
    go_wp2
    all_goals go_ret
    all_goals (refine ⟨?_, rfl⟩; simp [longB, hn', h40])
  · go_enter Tryz.func5, Tryz.ntmps5
    go_wp2
    go_loop [15] (fun i => ∃ k : Nat, k ≤ n ∧ i = .int .i64 k ∧ (xs.take k).any (fun x => decide (200 < x.size)) = false) (fun i => n - (intOf i).toNat)
    case atStart => exact ⟨0, Nat.zero_le _, rfl, by simp⟩
    case round =>
      obtain ⟨k, hk, rfl, hany⟩ := hrel
      by_cases hlt : k < n
      · have hl : k < xs.length := by omega
        have hcell := hc k xs[k] (List.getElem?_eq_getElem hl)
        have hs := hsz xs[k] (List.getElem_mem hl)
        generalize hx : xs[k] = x at hcell hs
        have hnext := any_take_succ hl (fun x => decide (200 < x.size))
        rw [hany, hx] at hnext
        go_wp2
        · go_ret
          refine ⟨?_, rfl⟩
          have h200 : 200 < x.size := by omega
          have : xs.any (fun x => decide (200 < x.size)) = true := List.any_eq_true.2 ⟨x, by rw [← hx]; exact List.getElem_mem hl, by simpa using h200⟩
          simp [longB, this]
        · go_round
          case rel =>
            refine ⟨k + 1, by omega, by go_num, ?_⟩
            have h200 : ¬ 200 < x.size := by omega
            rw [hnext]; simp [h200]
          case measure => simp [intOf]; omega
      · have : k = n := by omega
        subst this
        go_wp2
        go_ret
        refine ⟨?_, rfl⟩
        rw [← hn', List.take_length] at hany
        simp [longB, hn', h40, hany]
end Go.Proofs.YtnjpoodfaendkaaGreatDoor

set_option linter.unusedVariables false
namespace Go.Proofs.YtnjpoodfaendkaaGreatDoor
open Go Go.RowKit

/-- redlinenum.SameTexts at two lists that are alike. -/
theorem same_walk (b o c b' o' c' n : Nat) (xs : List ByteArray) (w : World) (hn : xs.length = n) (hm : n ≤ 9223372036854775807)
    (hc : ∀ (j : Nat) x, xs[j]? = some x → w.cell? ⟨b, o + j, none⟩ = some (.string x)) (hc' : ∀ (j : Nat) x, xs[j]? = some x → w.cell? ⟨b', o' + j, none⟩ = some (.string x)) :
    Calls Tryz.prog 6 #[.slice (some ⟨b, o, none⟩) n c, .slice (some ⟨b', o', none⟩) n c'] w fun e w' => e = .returned (.bool true) ∧ ∃ m, w' = w.drewN m := by
  go_enter Tryz.func6, Tryz.ntmps6
  go_wp2
  go_loopw [13] (fun i wr => ∃ k m : Nat, k ≤ n ∧ i = .int .i64 k ∧ wr = w.drewN m) (fun i _ => n - (intOf i).toNat)
  case atStart => exact ⟨0, 0, Nat.zero_le _, rfl, rfl⟩
  case round =>
    obtain ⟨k, m, hk, rfl, rfl⟩ := hrel
    by_cases hlt : k < n
    · have hl : k < xs.length := by omega
      have hb : (k : Int) < (n : Int) := by omega
      have hb0 : (0 : Int) ≤ (k : Int) := by omega
      have h1 : w.cell? ⟨b, o + k, none⟩ = some (.string xs[k]) := hc k xs[k] (List.getElem?_eq_getElem hl)
      have h2 : w.cell? ⟨b', o' + k, none⟩ = some (.string xs[k]) := hc' k xs[k] (List.getElem?_eq_getElem hl)
      generalize hx : xs[k] = x at h1 h2
      clear hc hc'
      go_wp2
      go_quiet (fail)
      go_wp2
      go_roundw
      case rel => exact ⟨k + 1, m + nq, by omega, by go_num, by simp [World.drewN_drewN]⟩
      case measure => simp [intOf]; omega
    · have : k = n := by omega
      subst this
      go_wp2
      go_ret
      exact ⟨rfl, m, rfl⟩
end Go.Proofs.YtnjpoodfaendkaaGreatDoor
