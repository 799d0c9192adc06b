import Derived.Test.YtnamakmnlagpgaaGreatDoorAx7
set_option linter.unusedVariables false
set_option linter.unusedSimpArgs false
namespace Go.AX
noncomputable section
open Go

/-! ### which blocks a value speaks of -/
mutual
def okq (q : Nat → Bool) : Value → Bool
  | .pointer (some a) => q a.block
  | .slice (some a) _ _ => q a.block
  | .map (some r) => q r
  | .chan (some _) => false
  | .func _ x y => cond (okqA q x) (okqA q y) false
  | .iface _ v => okq q v
  | .agg a => okqA q a
  | .tuple a => okqA q a
  | .bool _ => true
  | .int _ _ => true
  | .float _ _ => true
  | .complex _ _ _ => true
  | .string _ => true
  | .pointer none => true
  | .slice none _ _ => true
  | .map none => true
  | .chan none => true
  | .nilFunc => true
  | .nilIface => true
def okqA (q : Nat → Bool) : Array Value → Bool
  | ⟨l⟩ => okqL q l
def okqL (q : Nat → Bool) : List Value → Bool
  | [] => true
  | v :: l => cond (okq q v) (okqL q l) false
end

mutual
theorem ren_q {q : Nat → Bool} {ρ ρ' : Nat → Loc} (hA : ∀ b, q b = true → ρ' b = ρ b) : ∀ v : Value, okq q v = true → ren ρ' v = ren ρ v
  | .pointer (some a), h => by simp only [okq] at h; simp only [ren, renA]; rw [hA _ h]
  | .slice (some a) _ _, h => by simp only [okq] at h; simp only [ren, renA, renC]; rw [hA _ h]
  | .map (some _), h => by simp only [okq] at h; simp only [ren]; rw [hA _ h]
  | .chan (some _), h => by simp [okq] at h
  | .func fn x y, h => by
    simp only [okq, Bool.cond_false_right, Bool.and_eq_true] at h
    simp only [ren]; rw [renA_q hA x h.1, renA_q hA y h.2]
  | .iface t v, h => by simp only [okq] at h; simp only [ren]; rw [ren_q hA v h]
  | .agg a, h => by simp only [okq] at h; simp only [ren]; rw [renA_q hA a h]
  | .tuple a, h => by simp only [okq] at h; simp only [ren]; rw [renA_q hA a h]
  | .bool _, _ => by simp only [ren]
  | .int _ _, _ => by simp only [ren]
  | .float _ _, _ => by simp only [ren]
  | .complex _ _ _, _ => by simp only [ren]
  | .string _, _ => by simp only [ren]
  | .pointer none, _ => by simp only [ren]
  | .slice none _ _, _ => by simp only [ren]
  | .map none, _ => by simp only [ren]
  | .chan none, _ => by simp only [ren]
  | .nilFunc, _ => by simp only [ren]
  | .nilIface, _ => by simp only [ren]
theorem renA_q {q : Nat → Bool} {ρ ρ' : Nat → Loc} (hA : ∀ b, q b = true → ρ' b = ρ b) : ∀ a : Array Value, okqA q a = true → renArr ρ' a = renArr ρ a
  | ⟨l⟩, h => by simp only [okqA] at h; simp only [renArr]; rw [renL_q hA l h]
theorem renL_q {q : Nat → Bool} {ρ ρ' : Nat → Loc} (hA : ∀ b, q b = true → ρ' b = ρ b) : ∀ l : List Value, okqL q l = true → renL ρ' l = renL ρ l
  | [], _ => by simp only [renL]
  | v :: l, h => by
    simp only [okqL, Bool.cond_false_right, Bool.and_eq_true] at h
    simp only [renL]; rw [ren_q hA v h.1, renL_q hA l h.2]
end

theorem okqL_eq (q : Nat → Bool) (l : List Value) : okqL q l = l.all (okq q) := by
  induction l with
  | nil => simp [okqL]
  | cons v l ih => simp only [okqL, ih, List.all_cons]; cases okq q v <;> rfl

/-! ### a relation looks at no name above its size -/
theorem blk_agree {ρ ρ' : Nat → Loc} {n : Nat} {L : Loc} {w : World} (hA : Agree n ρ ρ') : ∀ k : Blk, BlkOK ρ n L w k → BlkOK ρ' n L w k
  | .cells cs co g k sz, h => by
    obtain ⟨h1, C, el, fz, h2, h3, h4, h5⟩ := h
    exact ⟨h1, C, el, fz, h2, fun i v hi => by rw [ren_agree hA v (h1 v (List.mem_of_getElem? hi))]; exact h3 i v hi, h4, h5⟩
  | .map es clock, h => by
    obtain ⟨h1, h2⟩ := h
    refine ⟨h1, ?_⟩
    rw [h2]
    have : es.map (renE ρ) = es.map (renE ρ') := List.map_congr_left fun e he => by simp only [renE, ren_agree hA e.val (h1 e he).2]
    rw [this]
  | .siter s pos, h => h
  | .miter m since seen stepped, h => by
    obtain ⟨h1, h2, h3⟩ := h
    refine ⟨h1, h2, ?_⟩
    rw [h3]
    cases m with
    | none => rfl
    | some r => simp only [Option.map_some, hA r (h2 r rfl)]

theorem sim_agree {ρ ρ' : Nat → Loc} {h : H} {w : World} (hA : Agree h.size ρ ρ') (s : Sim ρ h w) : Sim ρ' h w := {
  lt := s.lt
  obj := fun b k hb => by
    rw [hA b (s.lt b k hb)]
    exact blk_agree hA k (s.obj b k hb)
  sep := fun b1 b2 k1 k2 h1 h2 hne he => by
    rw [hA b1 (s.lt b1 k1 h1), hA b2 (s.lt b2 k2 h2)] at *
    exact s.sep b1 b2 k1 k2 h1 h2 hne he
  grp := s.grp
  gsz := s.gsz
  glob := fun g hg => by
    rw [hA g (by have := s.big; unfold roB at this; omega)]
    exact s.glob g hg
  big := s.big }

/-- a fresh row that lies there already -/
theorem absorb {ρ : Nat → Loc} {h : H} {w : World} {B : Nat} {cs : List Value} {el : TypeId} (s : Sim ρ h w) (hρ : ρ h.size = ⟨B, 0, 0⟩)
    (hoff : ∀ b k, h.blks.get b = some k → (ρ b).B ≠ B) (hB : w.heap[B]? = some (.cells (cs.map (ren ρ)).toArray el (0, 0))) (hok : ∀ v, v ∈ cs → ok h.size v = true) :
    Sim ρ (h.newCells cs 0 0) w := {
  lt := fun b k hb => by
    simp only [H.newCells, H.new, Tr.get_set] at hb ⊢
    split at hb
    · omega
    · have := s.lt b k hb; omega
  obj := fun b k hb => by
    simp only [H.newCells, H.new, Tr.get_set] at hb ⊢
    split at hb
    · rename_i a; subst a
      simp only [Option.some.injEq] at hb; subst hb
      rw [hρ]
      exact ⟨fun v hv => ok_mono (Nat.le_succ _) v (hok v hv), (cs.map (ren ρ)).toArray, el, (0, 0), hB, fun i v hi => by simp [hi], .inl rfl, by simp⟩
    · exact (s.obj b k hb).mono (Agree.refl _ _) (Nat.le_succ _) (fun o' ho' => ho')
  sep := fun b1 b2 k1 k2 h1 h2 hne he => by
    simp only [H.newCells, H.new, Tr.get_set] at h1 h2
    split at h1 <;> split at h2
    · rename_i a b'; exact absurd (a.trans b'.symm) hne
    · rename_i a _
      subst a
      rw [hρ] at he
      exact absurd he.symm (hoff b2 k2 h2)
    · rename_i _ a
      subst a
      rw [hρ] at he
      exact absurd he (hoff b1 k1 h1)
    · exact s.sep _ _ _ _ h1 h2 hne he
  grp := fun b k hb => by
    simp only [H.newCells, H.new, Tr.get_set] at hb
    split at hb
    · rename_i a; subst a
      simp only [Option.some.injEq] at hb; subst hb
      simp only [GrpOK, H.newCells, H.new]
      cases hg : h.grps.get h.size with
      | none => trivial
      | some gr => exact absurd (s.gsz _ gr hg) (Nat.lt_irrefl _)
    · exact s.grp b k hb
  gsz := fun g gr hg => by
    have := s.gsz g gr hg
    simp only [H.newCells, H.new]; omega
  glob := s.glob
  big := by have := s.big; simp only [H.newCells, H.new]; omega }

end
end Go.AX

namespace Go.AX
noncomputable section
open Go

/-! ### equal values, told soundly -/
def bytesEq : List UInt8 → List UInt8 → Bool
  | [], [] => true
  | a :: l, b :: m => cond (Nat.beq a.toNat b.toNat) (bytesEq l m) false
  | _, _ => false
theorem bytesEq_eq : ∀ l m, bytesEq l m = true → l = m
  | [], [], _ => rfl
  | a :: l, b :: m, h => by
    simp only [bytesEq, Bool.cond_false_right, Bool.and_eq_true] at h
    rw [bytesEq_eq l m h.2, UInt8.toNat.inj (nbeq_true h.1)]
  | [], _ :: _, h => by simp [bytesEq] at h
  | _ :: _, [], h => by simp [bytesEq] at h
def kindEq (a b : IntKind) : Bool :=
  match a, b with
  | .i8, .i8 => true
  | .i16, .i16 => true
  | .i32, .i32 => true
  | .i64, .i64 => true
  | .u8, .u8 => true
  | .u16, .u16 => true
  | .u32, .u32 => true
  | .u64, .u64 => true
  | _, _ => false
theorem kindEq_eq (a b : IntKind) (h : kindEq a b = true) : a = b := by cases a <;> cases b <;> first | rfl | simp [kindEq] at h
def intEq (a b : Int) : Bool :=
  match a, b with
  | .ofNat m, .ofNat n => Nat.beq m n
  | .negSucc m, .negSucc n => Nat.beq m n
  | _, _ => false
theorem intEq_eq (a b : Int) (h : intEq a b = true) : a = b := by
  cases a <;> cases b <;> simp only [intEq] at h
  · rw [nbeq_true h]
  · cases h
  · cases h
  · rw [nbeq_true h]
def addrEq (a b : Addr) : Bool :=
  match a, b with
  | ⟨b, o, none⟩, ⟨b', o', none⟩ => cond (Nat.beq b b') (Nat.beq o o') false
  | _, _ => false
theorem addrEq_eq (a b : Addr) (h : addrEq a b = true) : a = b := by
  obtain ⟨b1, o1, s1⟩ := a
  obtain ⟨b2, o2, s2⟩ := b
  cases s1 <;> cases s2 <;> simp only [addrEq, Bool.cond_false_right, Bool.and_eq_true] at h
  · rw [nbeq_true h.1, nbeq_true h.2]
  · cases h
  · cases h
  · cases h
def optAddrEq (a b : Option Addr) : Bool :=
  match a, b with
  | none, none => true
  | some a, some b => addrEq a b
  | _, _ => false
theorem optAddrEq_eq (a b : Option Addr) (h : optAddrEq a b = true) : a = b := by
  cases a <;> cases b <;> simp only [optAddrEq] at h
  · rfl
  · cases h
  · cases h
  · rw [addrEq_eq _ _ h]
mutual
def veq : Value → Value → Bool
  | .bool a, .bool b => cond a b (cond b false true)
  | .int k a, .int k' b => cond (kindEq k k') (intEq a b) false
  | .string a, .string b => bytesEq a.data.toList b.data.toList
  | .pointer a, .pointer b => optAddrEq a b
  | .slice a l c, .slice b l' c' => cond (optAddrEq a b) (cond (Nat.beq l l') (Nat.beq c c') false) false
  | .map (some a), .map (some b) => Nat.beq a b
  | .map none, .map none => true
  | .iface t v, .iface t' v' => cond (Nat.beq t t') (veq v v') false
  | .agg a, .agg b => veqA a b
  | .tuple a, .tuple b => veqA a b
  | .nilFunc, .nilFunc => true
  | .nilIface, .nilIface => true
  | _, _ => false
def veqA : Array Value → Array Value → Bool
  | ⟨l⟩, ⟨m⟩ => veqL l m
def veqL : List Value → List Value → Bool
  | [], [] => true
  | a :: l, b :: m => cond (veq a b) (veqL l m) false
  | _, _ => false
end
mutual
theorem veq_eq : ∀ a b : Value, veq a b = true → a = b
  | .bool a, b, h => by
    cases b with
    | bool b => cases a <;> cases b <;> simp_all [veq]
    | _ => simp [veq] at h
  | .int k a, b, h => by
    cases b with
    | int k' b =>
      simp only [veq, Bool.cond_false_right, Bool.and_eq_true] at h
      rw [kindEq_eq _ _ h.1, intEq_eq _ _ h.2]
    | _ => simp [veq] at h
  | .string ⟨⟨a⟩⟩, b, h => by
    cases b with
    | string b =>
      obtain ⟨⟨b⟩⟩ := b
      simp only [veq] at h
      rw [bytesEq_eq _ _ h]
    | _ => simp [veq] at h
  | .pointer a, b, h => by
    cases b with
    | pointer b =>
      simp only [veq] at h
      rw [optAddrEq_eq _ _ h]
    | _ => simp [veq] at h
  | .slice a l c, b, h => by
    cases b with
    | slice b l' c' =>
      simp only [veq, Bool.cond_false_right, Bool.and_eq_true] at h
      rw [optAddrEq_eq _ _ h.1, nbeq_true h.2.1, nbeq_true h.2.2]
    | _ => simp [veq] at h
  | .map a, b, h => by
    cases b with
    | map b =>
      cases a <;> cases b <;> simp only [veq] at h
      · rfl
      · cases h
      · cases h
      · rw [nbeq_true h]
    | _ => cases a <;> simp [veq] at h
  | .iface t v, b, h => by
    cases b with
    | iface t' v' =>
      simp only [veq, Bool.cond_false_right, Bool.and_eq_true] at h
      rw [nbeq_true h.1, veq_eq _ _ h.2]
    | _ => simp [veq] at h
  | .agg a, b, h => by
    cases b with
    | agg b =>
      simp only [veq] at h
      rw [veqA_eq _ _ h]
    | _ => simp [veq] at h
  | .tuple a, b, h => by
    cases b with
    | tuple b =>
      simp only [veq] at h
      rw [veqA_eq _ _ h]
    | _ => simp [veq] at h
  | .nilFunc, b, h => by cases b <;> first | rfl | simp [veq] at h
  | .nilIface, b, h => by cases b <;> first | rfl | simp [veq] at h
  | .float _ _, b, h => by simp [veq] at h
  | .complex _ _ _, b, h => by simp [veq] at h
  | .chan _, b, h => by simp [veq] at h
  | .func _ _ _, b, h => by simp [veq] at h
theorem veqA_eq : ∀ a b : Array Value, veqA a b = true → a = b
  | ⟨l⟩, ⟨m⟩, h => by
    simp only [veqA] at h
    rw [veqL_eq _ _ h]
theorem veqL_eq : ∀ a b : List Value, veqL a b = true → a = b
  | [], [], _ => rfl
  | a :: l, b :: m, h => by
    simp only [veqL, Bool.cond_false_right, Bool.and_eq_true] at h
    rw [veq_eq _ _ h.1, veqL_eq _ _ h.2]
  | [], _ :: _, h => by simp [veqL] at h
  | _ :: _, [], h => by simp [veqL] at h
end
end
end Go.AX

namespace Go.AX
noncomputable section
open Go

/-! ### sets of numbers as one number's bits -/
def bit (m i : Nat) : Bool := Nat.beq (Nat.land 1 (Nat.shiftRight m i)) 1
theorem bit_eq (m i : Nat) : bit m i = m.testBit i := by
  have h : Nat.land 1 (Nat.shiftRight m i) = (m >>> i) % 2 := Nat.one_and_eq_mod_two _
  unfold bit Nat.testBit
  have h2 : (1 &&& m >>> i) = (m >>> i) % 2 := Nat.one_and_eq_mod_two _
  rw [h, h2]
  have : (m >>> i) % 2 = 0 ∨ (m >>> i) % 2 = 1 := by omega
  rcases this with e | e <;> rw [e] <;> rfl
def one (i : Nat) : Nat := Nat.shiftLeft 1 i
theorem bit_one (i j : Nat) : bit (one i) j = true ↔ j = i := by
  rw [bit_eq]
  have : one i = 1 <<< i := rfl
  rw [this, Nat.testBit_shiftLeft]
  simp only [Bool.and_eq_true, decide_eq_true_eq, ge_iff_le]
  constructor
  · rintro ⟨h1, h2⟩
    have : j - i = 0 := by
      rcases Nat.eq_zero_or_pos (j - i) with e | e
      · exact e
      · rw [Nat.testBit_lt_two_pow (Nat.lt_of_lt_of_le (by decide : 1 < 2 ^ 1) (Nat.pow_le_pow_right (by decide) e))] at h2
        cases h2
    omega
  · rintro rfl
    simp
theorem bit_lor (a b i : Nat) : bit (Nat.lor a b) i = (bit a i || bit b i) := by
  rw [bit_eq, bit_eq, bit_eq]; exact Nat.testBit_or a b i
theorem bit_sub {a b : Nat} (h : Nat.beq (Nat.land a b) a = true) {i : Nat} (hi : bit a i = true) : bit b i = true := by
  have h := nbeq_true h
  rw [bit_eq] at hi ⊢
  rw [← h] at hi
  have := Nat.testBit_and a b i
  have e : Nat.land a b = a &&& b := rfl
  rw [e, this] at hi
  simp only [Bool.and_eq_true] at hi
  exact hi.2
def allBits (n : Nat) : Nat := Nat.sub (Nat.shiftLeft 1 n) 1
theorem bit_all (n i : Nat) : bit (allBits n) i = true ↔ i < n := by
  rw [bit_eq]
  have : allBits n = 2 ^ n - 1 := by
    unfold allBits
    have : Nat.shiftLeft 1 n = 2 ^ n := by have := Nat.one_shiftLeft n; exact this
    rw [this]; rfl
  rw [this, Nat.testBit_two_pow_sub_one]
  simp

/-! ### who must stand before whom -/
def ancE (T : Tr Nat) : List Edge → Nat → Nat
  | [], acc => acc
  | e :: l, acc => cond (Region.binds .any e)
    (frcN (Nat.lor (one e.on) (match T.get e.on with | some r => Nat.lor r acc | none => acc)) fun x => ancE T l x) (ancE T l acc)
def ancT : List Oper → Nat → Tr Nat → Tr Nat
  | [], _, T => T
  | o :: l, j, T => frcN (ancE T o.after.toList 0) fun x => frcN (j + 1) fun j' => Tr.frc (T.set j x) fun T => ancT l j' T
def ancOf (T : Tr Nat) (j : Nat) : Nat := match T.get j with
  | some r => r
  | none => 0

/-- a set that holds, with each operation, all that must stand before it -/
def Closed (ops : Array Oper) (L : Nat → Prop) : Prop := ∀ (j : Nat) o, ops[j]? = some o → L j → ∀ e, e ∈ o.after → Region.binds .any e = true → L e.on
def Under (ops : Array Oper) (L : Nat → Prop) (j : Nat) : Prop := ∀ o, ops[j]? = some o → ∀ e, e ∈ o.after → Region.binds .any e = true → L e.on

theorem ancE_mem (T : Tr Nat) : ∀ (l : List Edge) (acc i : Nat), bit (ancE T l acc) i = true ↔
    bit acc i = true ∨ ∃ e, e ∈ l ∧ Region.binds .any e = true ∧ (i = e.on ∨ bit (ancOf T e.on) i = true)
  | [], acc, i => by simp [ancE]
  | e :: l, acc, i => by
    simp only [ancE, frcN_eq]
    cases hb : Region.binds .any e with
    | true =>
      simp only [cond_true]
      rw [ancE_mem T l]
      have : bit (Nat.lor (one e.on) (match T.get e.on with | some r => Nat.lor r acc | none => acc)) i = true ↔ (i = e.on ∨ bit (ancOf T e.on) i = true) ∨ bit acc i = true := by
        rw [bit_lor, Bool.or_eq_true, bit_one]
        unfold ancOf
        cases T.get e.on with
        | none => simp [bit_eq]
        | some r => simp only [bit_lor, Bool.or_eq_true]; exact or_assoc.symm
      rw [this]
      constructor
      · rintro ((h | h) | ⟨e', h1, h2, h3⟩)
        · exact .inr ⟨e, by simp, hb, h⟩
        · exact .inl h
        · exact .inr ⟨e', by simp [h1], h2, h3⟩
      · rintro (h | ⟨e', h1, h2, h3⟩)
        · exact .inl (.inr h)
        · rcases List.mem_cons.1 h1 with rfl | h1
          · exact .inl (.inl h3)
          · exact .inr ⟨e', h1, h2, h3⟩
    | false =>
      simp only [cond_false]
      rw [ancE_mem T l]
      constructor
      · rintro (h | ⟨e', h1, h2, h3⟩)
        · exact .inl h
        · exact .inr ⟨e', by simp [h1], h2, h3⟩
      · rintro (h | ⟨e', h1, h2, h3⟩)
        · exact .inl h
        · rcases List.mem_cons.1 h1 with rfl | h1
          · rw [hb] at h2; cases h2
          · exact .inr ⟨e', h1, h2, h3⟩

def Sound (ops : Array Oper) (T : Tr Nat) : Prop := ∀ L, Closed ops L → ∀ j, Under ops L j → ∀ i, bit (ancOf T j) i = true → L i

theorem ancT_sound {ops : Array Oper} : ∀ (l : List Oper) (j : Nat) (T : Tr Nat), ops.toList.drop j = l → Sound ops T → Sound ops (ancT l j T)
  | [], j, T, _, h => by simpa [ancT] using h
  | o :: l, j, T, hd, h => by
    simp only [ancT, frcN_eq, Tr.frc_eq]
    have hj : ops[j]? = some o := by
      have : (ops.toList.drop j)[0]? = some o := by rw [hd]; rfl
      rw [List.getElem?_drop] at this
      simpa using this
    refine ancT_sound l (j + 1) _ (by rw [← List.tail_drop, hd]; rfl) ?_
    intro L hL j' hu i hi
    unfold ancOf at hi
    rw [Tr.get_set] at hi
    by_cases e : j' = j
    · subst e
      rw [if_pos rfl] at hi
      simp only at hi
      rcases (ancE_mem T _ _ _).1 hi with h0 | ⟨e, h1, h2, h3⟩
      · simp [bit_eq] at h0
      · have he := hu o hj e (by simpa using h1) h2
        rcases h3 with rfl | h3
        · exact he
        · exact h L hL e.on (fun o' ho' e' he' hb' => hL _ o' ho' he e' he' hb') i h3
    · rw [if_neg e] at hi
      exact h L hL j' hu i hi

theorem sound_nil (ops : Array Oper) : Sound ops .nil := fun L _ j _ i hi => by simp [ancOf, Tr.get_nil, bit_eq] at hi

def ancs (ops : Array Oper) : Tr Nat := ancT ops.toList 0 .nil
theorem ancs_sound (ops : Array Oper) : Sound ops (ancs ops) := ancT_sound _ 0 _ (by simp) (sound_nil ops)

/-- an edge's place is before -/
theorem ancT_edge {ops : Array Oper} : ∀ (l : List Oper) (j : Nat) (T : Tr Nat), ops.toList.drop j = l →
    (∀ (j' : Nat) o, j' < j → ops[j']? = some o → ∀ e, e ∈ o.after → Region.binds .any e = true → bit (ancOf T j') e.on = true) →
    ∀ (j' : Nat) o, ops[j']? = some o → ∀ e, e ∈ o.after → Region.binds .any e = true → bit (ancOf (ancT l j T) j') e.on = true
  | [], j, T, hd, h, j', o, ho, e, he, hb => by
    refine h j' o ?_ ho e he hb
    have h1 : ops.size ≤ j := by simpa [List.drop_eq_nil_iff] using hd
    exact Nat.lt_of_lt_of_le (Array.getElem?_eq_some_iff.1 ho).1 h1
  | o :: l, j, T, hd, h, j', o', ho, e, he, hb => by
    simp only [ancT, frcN_eq, Tr.frc_eq]
    have hj : ops[j]? = some o := by
      have : (ops.toList.drop j)[0]? = some o := by rw [hd]; rfl
      rw [List.getElem?_drop] at this
      simpa using this
    refine ancT_edge l (j + 1) _ (by rw [← List.tail_drop, hd]; rfl) ?_ j' o' ho e he hb
    intro j2 o2 hlt ho2 e2 he2 hb2
    unfold ancOf
    rw [Tr.get_set]
    by_cases e : j2 = j
    · subst e
      rw [if_pos rfl]
      rw [hj] at ho2
      simp only [Option.some.injEq] at ho2
      subst ho2
      exact (ancE_mem T _ _ _).2 (.inr ⟨e2, by simpa using he2, hb2, .inl rfl⟩)
    · rw [if_neg e]
      exact h j2 o2 (by omega) ho2 e2 he2 hb2

theorem ancs_edge {ops : Array Oper} {j : Nat} {o : Oper} (ho : ops[j]? = some o) {e : Edge} (he : e ∈ o.after) (hb : Region.binds .any e = true) : bit (ancOf (ancs ops) j) e.on = true :=
  ancT_edge ops.toList 0 .nil (by simp) (fun _ _ h => absurd h (Nat.not_lt_zero _)) j o ho e he hb

/-! ### who writes what -/
def wrT : List Oper → Nat → Tr Nat → Option (Tr Nat)
  | [], _, W => some W
  | o :: l, j, W => match o.dst with
    | none => frcN (j + 1) fun j' => wrT l j' W
    | some d => match W.get d with
      | some _ => none
      | none => frcN (j + 1) fun j' => Tr.frc (W.set d j) fun W => wrT l j' W

theorem wrT_spec {ops : Array Oper} : ∀ (l : List Oper) (j : Nat) (W W' : Tr Nat), ops.toList.drop j = l → wrT l j W = some W' →
    (∀ (i : Nat) o d, i < j → ops[i]? = some o → o.dst = some d → W.get d = some i) →
    ∀ (i : Nat) o d, ops[i]? = some o → o.dst = some d → W'.get d = some i
  | [], j, W, W', hd, h, hW, i, o, d, ho, hdst => by
    simp only [wrT, Option.some.injEq] at h; subst h
    have h1 : ops.size ≤ j := by simpa [List.drop_eq_nil_iff] using hd
    exact hW i o d (Nat.lt_of_lt_of_le (Array.getElem?_eq_some_iff.1 ho).1 h1) ho hdst
  | o :: l, j, W, W', hd, h, hW, i, o', d', ho, hdst => by
    have hj : ops[j]? = some o := by
      have : (ops.toList.drop j)[0]? = some o := by rw [hd]; rfl
      rw [List.getElem?_drop] at this
      simpa using this
    have hd' : ops.toList.drop (j + 1) = l := by rw [← List.tail_drop, hd]; rfl
    simp only [wrT, frcN_eq, Tr.frc_eq] at h
    split at h
    · rename_i hn
      refine wrT_spec l (j + 1) W W' hd' h ?_ i o' d' ho hdst
      intro i2 o2 d2 hlt ho2 hd2
      by_cases e : i2 = j
      · subst e
        rw [hj] at ho2
        simp only [Option.some.injEq] at ho2
        subst ho2
        rw [hn] at hd2; cases hd2
      · exact hW i2 o2 d2 (by omega) ho2 hd2
    · rename_i d hn
      split at h
      · cases h
      · rename_i hg
        refine wrT_spec l (j + 1) _ W' hd' h ?_ i o' d' ho hdst
        intro i2 o2 d2 hlt ho2 hd2
        rw [Tr.get_set]
        by_cases e : i2 = j
        · subst e
          rw [hj] at ho2
          simp only [Option.some.injEq] at ho2
          subst ho2
          rw [hn] at hd2
          simp only [Option.some.injEq] at hd2
          subst hd2
          rw [if_pos rfl]
        · have h2 := hW i2 o2 d2 (by omega) ho2 hd2
          have : d2 ≠ d := fun e' => by subst e'; rw [hg] at h2; cases h2
          rw [if_neg this]; exact h2

/-- the temporaries that an operation looks at -/
def tmpsOf : List Operand → List Nat
  | [] => []
  | .tmp t :: l => t :: tmpsOf l
  | _ :: l => tmpsOf l
theorem tmpsOf_mem : ∀ (l : List Operand) (t : Nat), t ∈ tmpsOf l ↔ .tmp t ∈ l
  | [], t => by simp [tmpsOf]
  | x :: l, t => by
    cases x <;> simp [tmpsOf, tmpsOf_mem l t]
def looks (ops : Array Oper) (o : Oper) : List Nat :=
  match o.guard with
  | none => tmpsOf o.op.operands.toList
  | some (g, _) => match ops[g]? with
    | some og => match og.dst with
      | some d => d :: tmpsOf o.op.operands.toList
      | none => tmpsOf o.op.operands.toList
    | none => tmpsOf o.op.operands.toList

def readOK (T W : Tr Nat) (j : Nat) : List Nat → Bool
  | [] => true
  | t :: l => cond (match W.get t with
      | none => true
      | some w => cond (Nat.beq w j) true (cond (bit (ancOf T j) w) true (bit (ancOf T w) j))) (readOK T W j l) false
theorem readOK_spec {T W : Tr Nat} {j : Nat} : ∀ (l : List Nat), readOK T W j l = true → ∀ t, t ∈ l → ∀ w, W.get t = some w → w = j ∨ bit (ancOf T j) w = true ∨ bit (ancOf T w) j = true
  | [], _, t, ht, _, _ => by cases ht
  | t0 :: l, h, t, ht, w, hw => by
    simp only [readOK, Bool.cond_false_right, Bool.and_eq_true] at h
    rcases List.mem_cons.1 ht with rfl | ht
    · have h1 := h.1
      rw [hw] at h1
      simp only [Bool.cond_true_left, Bool.or_eq_true] at h1
      rcases h1 with e | e
      · exact .inl (nbeq_true e)
      · exact .inr e
    · exact readOK_spec l h.2 t ht w hw

def readsOK (T W : Tr Nat) (ops : Array Oper) : List Oper → Nat → Bool
  | [], _ => true
  | o :: l, j => cond (readOK T W j (looks ops o)) (frcN (j + 1) fun j' => readsOK T W ops l j') false
theorem readsOK_spec {T W : Tr Nat} {ops : Array Oper} : ∀ (l : List Oper) (j : Nat), ops.toList.drop j = l → readsOK T W ops l j = true →
    ∀ (i : Nat) o, j ≤ i → ops[i]? = some o → readOK T W i (looks ops o) = true
  | [], j, hd, _, i, o, hji, ho => by
    have h1 : ops.size ≤ j := by simpa [List.drop_eq_nil_iff] using hd
    have := (Array.getElem?_eq_some_iff.1 ho).1
    omega
  | o :: l, j, hd, h, i, o', hji, ho => by
    have hj : ops[j]? = some o := by
      have : (ops.toList.drop j)[0]? = some o := by rw [hd]; rfl
      rw [List.getElem?_drop] at this
      simpa using this
    have hd' : ops.toList.drop (j + 1) = l := by rw [← List.tail_drop, hd]; rfl
    simp only [readsOK, frcN_eq, Bool.cond_false_right, Bool.and_eq_true] at h
    by_cases e : i = j
    · subst e
      rw [hj] at ho
      simp only [Option.some.injEq] at ho
      subst ho
      exact h.1
    · exact readsOK_spec l (j + 1) hd' h.2 i o' (by omega) ho

/-! ### the order of the run -/
def hvs (P : Program) : List Oper → Nat → List Nat
  | [], _ => []
  | o :: l, j => match kind P o.op with
    | 0 => frcN (j + 1) fun j' => hvs P l j'
    | 1 => frcN (j + 1) fun j' => hvs P l j'
    | 2 => frcN (j + 1) fun j' => hvs P l j'
    | _ => frcN j fun j => frcN (j + 1) fun j' => j :: hvs P l j'

/-- the numbers below n (counted down from k) that are in a and not in m -/
def pickB (a m n : Nat) : Nat → List Nat → List Nat
  | 0, l => l
  | k + 1, l => cond (bit a (n - (k + 1))) (cond (bit m (n - (k + 1))) (pickB a m n k l) (frcN (n - (k + 1)) fun x => x :: pickB a m n k l)) (pickB a m n k l)

def ordX (T : Tr Nat) (n : Nat) : List Nat → Nat → List Nat
  | [], m => pickB (allBits n) m n n []
  | x :: l, m => pickB (ancOf T x) m n n (x :: frcN (Nat.lor m (Nat.lor (ancOf T x) (one x))) fun m => ordX T n l m)

/-- an order that keeps to what must be, in which all that stands before a heavy operation must stand there -/
def ordOK (P : Program) (T : Tr Nat) (ops : Array Oper) : List Nat → Nat → Bool
  | [], m => Nat.beq m (allBits ops.size)
  | j :: l, m => match ops[j]? with
    | none => false
    | some o => cond (bit m j) false (cond (Nat.beq (Nat.land (ancOf T j) m) (ancOf T j))
      (cond (match kind P o.op with
        | 0 => true
        | 1 => true
        | 2 => true
        | _ => Nat.beq (Nat.land m (ancOf T j)) m) (frcN (Nat.lor m (one j)) fun m => ordOK P T ops l m) false) false)

def maskL : List Nat → Nat → Nat
  | [], m => m
  | j :: l, m => maskL l (Nat.lor m (one j))
theorem maskL_mem : ∀ (l : List Nat) (m i : Nat), bit (maskL l m) i = true ↔ bit m i = true ∨ i ∈ l
  | [], m, i => by simp [maskL]
  | j :: l, m, i => by
    simp only [maskL]
    rw [maskL_mem l, bit_lor, Bool.or_eq_true, bit_one, List.mem_cons, or_assoc]

structure Ordered (P : Program) (T : Tr Nat) (ops : Array Oper) (l : List Nat) (m : Nat) : Prop where
  nodup : ∀ (i k j : Nat), l[i]? = some j → l[k]? = some j → i = k
  fresh : ∀ (i j : Nat), l[i]? = some j → bit m j = false
  lin : ∀ (i j : Nat), l[i]? = some j → ∀ x : Nat, bit (ancOf T j) x = true → bit m x = true ∨ ∃ k : Nat, k < i ∧ l[k]? = some x
  heavy : ∀ (i j : Nat) o, l[i]? = some j → ops[j]? = some o → 3 ≤ kind P o.op → ∀ k x : Nat, k < i → l[k]? = some x → bit (ancOf T j) x = true
  all : ∀ j : Nat, j < ops.size → bit m j = true ∨ ∃ i : Nat, l[i]? = some j

theorem ordOK_spec {P : Program} {T : Tr Nat} {ops : Array Oper} : ∀ (l : List Nat) (m : Nat), ordOK P T ops l m = true →
    Ordered P T ops l m ∧ ∀ (i j : Nat) o, l[i]? = some j → ops[j]? = some o → 3 ≤ kind P o.op → ∀ x, bit m x = true → bit (ancOf T j) x = true
  | [], m, h => by
    simp only [ordOK] at h
    have h := nbeq_true h
    refine ⟨⟨by simp, by simp, by simp, by simp, fun j hj => .inl ?_⟩, by simp⟩
    rw [h]; exact (bit_all _ _).2 hj
  | j0 :: l, m, h => by
    simp only [ordOK, frcN_eq] at h
    split at h
    · cases h
    · rename_i o ho
      simp only [Bool.cond_false_left, Bool.cond_false_right, Bool.and_eq_true, Bool.not_eq_true'] at h
      obtain ⟨h1, h2, h3, h4⟩ := h
      obtain ⟨I, I2⟩ := ordOK_spec l _ h4
      have hm : ∀ x, bit (Nat.lor m (one j0)) x = true ↔ bit m x = true ∨ x = j0 := fun x => by rw [bit_lor, Bool.or_eq_true, bit_one]
      have hfr : ∀ (i j : Nat), l[i]? = some j → j ≠ j0 ∧ bit m j = false := fun i j hi => by
        have := I.fresh i j hi
        refine ⟨fun e => ?_, ?_⟩
        · have := (hm j).2 (.inr e); simp_all
        · cases hb : bit m j with
          | false => rfl
          | true => have := (hm j).2 (.inl hb); simp_all
      have hself : ∀ (o' : Oper), ops[j0]? = some o' → 3 ≤ kind P o'.op → ∀ x, bit m x = true → bit (ancOf T j0) x = true := fun o' ho' hk x hx => by
        rw [ho] at ho'
        simp only [Option.some.injEq] at ho'; subst ho'
        split at h3 <;> first | (rename_i e; rw [e] at hk; omega) | exact bit_sub h3 hx
      refine ⟨⟨?_, ?_, ?_, ?_, ?_⟩, ?_⟩
      · intro i k j hi hk
        cases i with
        | zero =>
          simp only [List.getElem?_cons_zero, Option.some.injEq] at hi; subst hi
          cases k with
          | zero => rfl
          | succ k => exact absurd rfl (hfr k _ (by simpa using hk)).1
        | succ i =>
          cases k with
          | zero =>
            simp only [List.getElem?_cons_zero, Option.some.injEq] at hk; subst hk
            exact absurd rfl (hfr i _ (by simpa using hi)).1
          | succ k => rw [I.nodup i k j (by simpa using hi) (by simpa using hk)]
      · intro i j hi
        cases i with
        | zero => simp only [List.getElem?_cons_zero, Option.some.injEq] at hi; subst hi; exact h1
        | succ i => exact (hfr i j (by simpa using hi)).2
      · intro i j hi x hx
        cases i with
        | zero =>
          simp only [List.getElem?_cons_zero, Option.some.injEq] at hi; subst hi
          exact .inl (bit_sub h2 hx)
        | succ i =>
          rcases I.lin i j (by simpa using hi) x hx with e | ⟨k, hk, hk'⟩
          · rcases (hm x).1 e with e | e
            · exact .inl e
            · exact .inr ⟨0, by omega, by simp [e]⟩
          · exact .inr ⟨k + 1, by omega, by simpa using hk'⟩
      · intro i j o' hi ho' hk3 k x hk hx
        cases i with
        | zero => omega
        | succ i =>
          cases k with
          | zero =>
            simp only [List.getElem?_cons_zero, Option.some.injEq] at hx; subst hx
            exact I2 i j o' (by simpa using hi) ho' hk3 _ ((hm _).2 (.inr rfl))
          | succ k => exact I.heavy i j o' (by simpa using hi) ho' hk3 k x (by omega) (by simpa using hx)
      · intro j hj
        rcases I.all j hj with e | ⟨i, hi⟩
        · rcases (hm j).1 e with e | e
          · exact .inl e
          · exact .inr ⟨0, by simp [e]⟩
        · exact .inr ⟨i + 1, by simpa using hi⟩
      · intro i j o' hi ho' hk3 x hx
        cases i with
        | zero =>
          simp only [List.getElem?_cons_zero, Option.some.injEq] at hi; subst hi
          exact hself o' ho' hk3 x hx
        | succ i => exact I2 i j o' (by simpa using hi) ho' hk3 x ((hm x).2 (.inl hx))

/-! ### all of it -/
def frcNs {β : Type} : List Nat → (List Nat → β) → β
  | [], k => k []
  | x :: l, k => frcN x fun x => frcNs l fun l => k (x :: l)
theorem frcNs_eq {β : Type} : ∀ (l : List Nat) (k : List Nat → β), frcNs l k = k l
  | [], _ => rfl
  | x :: l, k => by simp only [frcNs, frcN_eq]; rw [frcNs_eq l]

def planX (P : Program) (ops : Array Oper) : Option (Tr Nat × List Nat) :=
  Tr.frc (ancs ops) fun T => match wrT ops.toList 0 .nil with
  | some W => cond (readsOK T W ops ops.toList 0) (frcNs (ordX T ops.size (hvs P ops.toList 0) 0) fun l => cond (ordOK P T ops l 0) (some (T, l)) none) none
  | none => none

structure Plan (P : Program) (ops : Array Oper) (T : Tr Nat) (l : List Nat) : Prop where
  sound : Sound ops T
  edge : ∀ (j : Nat) o, ops[j]? = some o → ∀ e, e ∈ o.after → Region.binds .any e = true → bit (ancOf T j) e.on = true
  ord : Ordered P T ops l 0
  one : ∀ (i k : Nat) o o' d, ops[i]? = some o → ops[k]? = some o' → o.dst = some d → o'.dst = some d → i = k
  read : ∀ (j : Nat) o, ops[j]? = some o → ∀ t, t ∈ looks ops o → ∀ (w : Nat) ow, ops[w]? = some ow → ow.dst = some t → w = j ∨ bit (ancOf T j) w = true ∨ bit (ancOf T w) j = true

theorem planX_ok {P : Program} {ops : Array Oper} {T : Tr Nat} {l : List Nat} (h : planX P ops = some (T, l)) : Plan P ops T l := by
  unfold planX at h
  simp only [Tr.frc_eq, frcNs_eq] at h
  split at h
  · rename_i W hW
    obtain ⟨h1, h⟩ := cond_some h
    obtain ⟨h2, h⟩ := cond_some h
    simp only [Option.some.injEq, Prod.mk.injEq] at h
    obtain ⟨rfl, rfl⟩ := h
    have hw := wrT_spec (ops := ops) ops.toList 0 .nil W (by simp) hW (fun i o d hi => absurd hi (Nat.not_lt_zero _))
    refine ⟨ancs_sound ops, fun j o ho e he hb => ancs_edge ho he hb, (ordOK_spec _ _ h2).1, ?_, ?_⟩
    · intro i k o o' d ho ho' hd hd'
      have a := hw i o d ho hd
      have b := hw k o' d ho' hd'
      rw [a] at b
      exact Option.some.inj b
    · intro j o ho t ht w ow how hd
      exact readOK_spec _ (readsOK_spec ops.toList 0 (by simp) h1 j o (Nat.zero_le _) ho) t ht w (hw w ow t how hd)
  · cases h

end
end Go.AX
