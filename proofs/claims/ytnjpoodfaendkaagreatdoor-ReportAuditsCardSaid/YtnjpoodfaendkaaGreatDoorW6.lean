import Derived.Test.YtnjpoodfaendkaaGreatDoorW5
set_option linter.unusedVariables false
set_option linter.unusedSimpArgs false
set_option linter.unusedVariables false
namespace Go.Proofs.YtnjpoodfaendkaaGreatDoor
open Go Go.RowKit

def ones : BitVec 32 := ~~~(0#32)
def stpN : Nat → BitVec 32 → BitVec 32
  | 0, Y => Y
  | n + 1, Y => stp (stpN n Y)
theorem stpN_8 (Y : BitVec 32) : stpN 8 Y = stp8 Y := rfl

theorem tdiv_u (Z : BitVec 32) : (u Z).tdiv (2 : Int) % (4294967296 : Int) = u (Z >>> 1) := by
  have h0 := u_pos Z
  have h1 := u_lt Z
  rw [Int.tdiv_eq_ediv_of_nonneg h0, ← shr1_u]
  exact Int.emod_eq_of_lt (by omega) (by omega)
theorem stp_one (Z : BitVec 32) (h : Z.getLsbD 0 = true) : bits .xor .u32 (u (Z >>> 1)) 3988292384 = u (stp Z) := by
  have e : (3988292384 : Int) = u 3988292384#32 := rfl
  rw [e, xor_u]
  unfold stp; rw [h]; rfl
theorem not_u' (X : BitVec 32) : bits .xor .u32 (u X) 4294967295 = u (~~~X) := by
  have e : (4294967295 : Int) = u 4294967295#32 := rfl
  rw [e, xor_u]
  have : (4294967295#32) = BitVec.allOnes 32 := rfl
  rw [this, BitVec.xor_allOnes]

set_option maxRecDepth 100000 in
set_option maxHeartbeats 4000000 in
theorem refsum_walk (b o c n : Nat) (bs : List UInt8) (w : World) (hn : bs.length = n) (hb : bytesAt w b o bs) (hm : n ≤ 1000000) :
    Calls Tryz.prog 11 #[.slice (some ⟨b, o, none⟩) n c] w fun e w' => e = .returned (.int .u32 (u (~~~(crcF (ones) bs)))) ∧ w' = w := by
  go_enter Tryz.func11, Tryz.ntmps11
  go_wp2
  go_loop [3, 10] (fun x i => ∃ k : Nat, k ≤ n ∧ i = .int .i64 k ∧ x = .int .u32 (u (crcF (ones) (bs.take k)))) (fun _ i => n - (intOf i).toNat)
  case atStart => exact ⟨0, Nat.zero_le _, rfl, rfl⟩
  case round =>
    obtain ⟨k, hk, rfl, rfl⟩ := hrel
    by_cases hlt : k < n
    · have hl : k < bs.length := by omega
      have hcell := hb k bs[k] (List.getElem?_eq_getElem hl)
      have hnext : crcF (ones) (bs.take (k + 1)) = stp8 (crcF (ones) (bs.take k) ^^^ BitVec.ofNat 32 bs[k].toNat) := by
        rw [List.take_add_one, List.getElem?_eq_getElem hl]
        exact crcF_snoc _ _ _
      generalize hX : crcF (ones) (bs.take k) = X at *
      have hc : (bs[k].toNat : Int) = u (BitVec.ofNat 32 bs[k].toNat) := by
        unfold u
        rw [BitVec.toNat_ofNat, Nat.mod_eq_of_lt]
        have := bs[k].toNat_lt
        omega
      rw [hc] at hcell
      have hcl : u (BitVec.ofNat 32 bs[k].toNat) < 256 := by rw [← hc]; have := bs[k].toNat_lt; omega
      generalize BitVec.ofNat 32 bs[k].toNat = C at *
      have f1 := xor_u X C
      generalize X ^^^ C = Y at *
      have HN : Hid (crcF (ones) (bs.take (k + 1)) = stp8 Y) := hnext
      have p0 := u_pos C
      clear hb hnext hX hc
      go_wp2
      go_loop [3, 6] (fun x i => ∃ j : Nat, j ≤ 8 ∧ i = .int .i64 j ∧ x = .int .u32 (u (stpN j Y))) (fun _ i => 8 - (intOf i).toNat)
      case atStart => exact ⟨0, by omega, rfl, rfl⟩
      case round =>
        obtain ⟨j, hj, rfl, rfl⟩ := hrel
        by_cases hj8 : j < 8
        · have hs : stpN (j + 1) Y = stp (stpN j Y) := rfl
          generalize stpN j Y = Z at *
          have HS : Hid (stpN (j + 1) Y = stp Z) := hs
          clear hs f1 hcell
          have p1 := u_pos Z
          have g0 := low1_u Z
          cases hz : Z.getLsbD 0 with
          | true =>
            rw [hz] at g0
            simp only [if_true] at g0
            have G2 : Hid (bits .xor .u32 (u (Z >>> 1)) 3988292384 = u (stp Z)) := stp_one Z hz
            go_wp2
            go_round
            case rel => exact ⟨j + 1, by omega, by go_num, by rw [HS.out, tdiv_u, G2.out]⟩
            case measure => simp [intOf]; omega
          | false =>
            rw [hz] at g0
            simp only [Bool.false_eq_true, if_false] at g0
            have G1 : Hid (stp Z = Z >>> 1) := stp_even Z hz
            go_wp2
            go_round
            case rel => exact ⟨j + 1, by omega, by go_num, by rw [HS.out, G1.out, tdiv_u]⟩
            case measure => simp [intOf]; omega
        · have : j = 8 := by omega
          subst this
          go_wp2
          go_round
          case rel => exact ⟨k + 1, by omega, by go_num, by rw [HN.out]; rfl⟩
          case measure => simp [intOf]; omega
    · have : k = n := by omega
      subst this
      have f0 := not_u' (crcF (ones) bs)
      rw [← hn, List.take_length]
      go_wp2
      go_ret
      exact ⟨rfl, rfl⟩
end Go.Proofs.YtnjpoodfaendkaaGreatDoor
