import Derived.Test.YtnjpoodfaendkaaGreatDoorW4
set_option linter.unusedVariables false
set_option linter.unusedSimpArgs false
set_option linter.unusedVariables false
namespace Go.Proofs.YtnjpoodfaendkaaGreatDoor
open Go Go.RowKit

/-! ### layer 5's sums, in bits -/
def u (X : BitVec 32) : Int := (X.toNat : Int)
theorem u_pos (X : BitVec 32) : 0 ≤ u X := by unfold u; omega
theorem u_lt (X : BitVec 32) : u X < 4294967296 := by have := X.isLt; unfold u; omega

def stp (X : BitVec 32) : BitVec 32 := (X >>> 1) ^^^ (if X.getLsbD 0 then 3988292384#32 else 0#32)
def stp4 (X : BitVec 32) : BitVec 32 := stp (stp (stp (stp X)))
def stp8 (X : BitVec 32) : BitVec 32 := stp4 (stp4 X)
/-- a sum that goes on by bytes -/
def crcF : BitVec 32 → List UInt8 → BitVec 32
  | X, [] => X
  | X, b :: l => crcF (stp8 (X ^^^ BitVec.ofNat 32 b.toNat)) l
theorem crcF_append (X : BitVec 32) (l m : List UInt8) : crcF X (l ++ m) = crcF (crcF X l) m := by
  induction l generalizing X with
  | nil => rfl
  | cons b l ih => simp only [List.cons_append, crcF]; exact ih _
theorem crcF_snoc (X : BitVec 32) (l : List UInt8) (b : UInt8) : crcF X (l ++ [b]) = stp8 (crcF X l ^^^ BitVec.ofNat 32 b.toNat) := by
  rw [crcF_append]; rfl

theorem stp_xor (X Y : BitVec 32) : stp (X ^^^ Y) = stp X ^^^ stp Y := by
  apply BitVec.eq_of_getLsbD_eq
  intro i hi
  unfold stp
  simp only [BitVec.getLsbD_xor, BitVec.getLsbD_ushiftRight]
  cases X.getLsbD 0 <;> cases Y.getLsbD 0 <;> simp [Bool.xor_comm, Bool.xor_left_comm, Bool.xor_assoc]
theorem stp4_xor (X Y : BitVec 32) : stp4 (X ^^^ Y) = stp4 X ^^^ stp4 Y := by simp only [stp4, stp_xor]

theorem stp_even (X : BitVec 32) (h : X.getLsbD 0 = false) : stp X = X >>> 1 := by
  unfold stp; rw [h]; simp

theorem stp4_high (X : BitVec 32) : stp4 ((X >>> 4) <<< 4) = X >>> 4 := by
  have g : ∀ (k i : Nat), k ≤ 4 → (((X >>> 4) <<< 4) >>> k).getLsbD i = (decide (i + k < 32) && (decide (4 ≤ i + k) && X.getLsbD (i + k))) := fun k i hk => by
    simp only [BitVec.getLsbD_ushiftRight, BitVec.getLsbD_shiftLeft]
    rw [Nat.add_comm k i]
    by_cases h : 4 ≤ i + k
    · have : i + k - 4 + 4 = i + k := by omega
      simp [h, Nat.not_lt.2 h, Nat.add_comm 4, this]
    · simp [h, Nat.lt_of_not_le h]
  have s : ∀ k, k < 4 → stp ((((X >>> 4) <<< 4)) >>> k) = ((X >>> 4) <<< 4) >>> (k + 1) := fun k hk => by
    rw [stp_even _ (by rw [g k 0 (by omega)]; simp; omega), ← BitVec.shiftRight_add]
  unfold stp4
  have s0 := s 0 (by omega)
  rw [BitVec.ushiftRight_zero] at s0
  rw [s0, s 1 (by omega), s 2 (by omega), s 3 (by omega)]
  apply BitVec.eq_of_getLsbD_eq
  intro i hi
  rw [g 4 i (by omega)]
  rw [BitVec.getLsbD_ushiftRight]
  by_cases h : i + 4 < 32
  · simp [h, Nat.add_comm]
  · have : X.getLsbD (4 + i) = false := BitVec.getLsbD_of_ge _ _ (by omega)
    simp [h, this]

/-- a step of four bits by the table -/
theorem nib (X : BitVec 32) : (X >>> 4) ^^^ stp4 (X &&& 15#32) = stp4 X := by
  have h : X = ((X >>> 4) <<< 4) ^^^ (X &&& 15#32) := by
    apply BitVec.eq_of_getLsbD_eq
    intro i hi
    simp only [BitVec.getLsbD_xor, BitVec.getLsbD_shiftLeft, BitVec.getLsbD_ushiftRight, BitVec.getLsbD_and]
    have m : (15#32).getLsbD i = decide (i < 4) := by
      have : ∀ j : Fin 32, (15#32).getLsbD j.1 = decide (j.1 < 4) := by decide
      exact this ⟨i, hi⟩
    rw [m]
    by_cases h4 : i < 4
    · simp [h4]
    · have : 4 + (i - 4) = i := by omega
      simp [h4, hi, this]
  conv => rhs; rw [h]
  rw [stp4_xor, stp4_high]

/-! ### in the model's numbers -/
theorem xor_u (X Y : BitVec 32) : bits .xor .u32 (u X) (u Y) = u (X ^^^ Y) := by
  have e : ∀ Z : BitVec 32, BitVec.ofInt 32 (u Z) = Z := fun Z => by unfold u; simp
  have hw : ∀ Z : BitVec 32, IntKind.u32.wrap (Z.toNat : Int) = (Z.toNat : Int) := fun Z => by
    have := Z.isLt
    show _ = _
    simp only [IntKind.wrap, IntKind.bits, IntKind.signed]
    simp
    omega
  show IntKind.u32.wrap ((BitVec.ofInt 32 (u X) ^^^ BitVec.ofInt 32 (u Y)).toNat : Int) = _
  rw [e, e, hw]
  rfl
theorem shr4_u (X : BitVec 32) : u X / (16 : Int) = u (X >>> 4) := by
  unfold u
  rw [BitVec.toNat_ushiftRight, Nat.shiftRight_eq_div_pow]
  rfl
theorem shr1_u (X : BitVec 32) : u X / (2 : Int) = u (X >>> 1) := by
  unfold u
  rw [BitVec.toNat_ushiftRight, Nat.shiftRight_eq_div_pow]
  rfl
theorem low4_u (X : BitVec 32) : (u X % (16 : Int)).toNat = (X &&& 15#32).toNat := by
  unfold u
  rw [BitVec.toNat_and]
  have : (15#32).toNat = 2 ^ 4 - 1 := rfl
  rw [this, Nat.and_two_pow_sub_one_eq_mod]
  omega
theorem low1_u (X : BitVec 32) : u X % (2 : Int) = if X.getLsbD 0 then 1 else 0 := by
  unfold u
  have : X.getLsbD 0 = X.toNat.testBit 0 := rfl
  rw [this, Nat.testBit_zero]
  by_cases h : X.toNat % 2 = 1
  · simp [h]; omega
  · simp [h]; omega
end Go.Proofs.YtnjpoodfaendkaaGreatDoor
