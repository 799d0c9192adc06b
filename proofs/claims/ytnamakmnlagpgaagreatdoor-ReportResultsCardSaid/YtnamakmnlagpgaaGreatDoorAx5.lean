import Derived.Test.YtnamakmnlagpgaaGreatDoorAx4
set_option linter.unusedVariables false
set_option linter.unusedSimpArgs false
namespace Go.AX
noncomputable section
open Go

/-! ### numbers that are no less than nought: quick ways -/
def lim : IntKind → Nat
  | .i8 => 128
  | .i16 => 32768
  | .i32 => 2147483648
  | .i64 => 9223372036854775808
  | .u8 => 256
  | .u16 => 65536
  | .u32 => 4294967296
  | .u64 => 18446744073709551616

def ikn : IntKind → Nat
  | .i8 => 0
  | .i16 => 1
  | .i32 => 2
  | .i64 => 3
  | .u8 => 4
  | .u16 => 5
  | .u32 => 6
  | .u64 => 7

theorem ikn_inj {a b : IntKind} (h : Nat.beq (ikn a) (ikn b) = true) : a = b := by
  cases a <;> cases b <;> first | rfl | cases h

theorem wrap_lim (k : IntKind) (n : Nat) (h : n < lim k) : k.wrap (Int.ofNat n) = Int.ofNat n := by
  cases k <;> simp only [lim] at h <;> simp [IntKind.wrap, IntKind.bits, IntKind.signed] <;> omega

theorem lim_bits (k : IntKind) : lim k ≤ 2 ^ k.bits := by cases k <;> decide

def natIn (k : IntKind) (c : Nat) : Option Value := cond (Nat.blt c (lim k)) (some (.int k (.ofNat c))) none

theorem natIn_some {k : IntKind} {c : Nat} {v : Value} (h : natIn k c = some v) : v = .int k (k.wrap (Int.ofNat c)) := by
  unfold natIn at h
  obtain ⟨h1, h2⟩ := cond_some h
  simp only [Option.some.injEq] at h2
  rw [wrap_lim k c (blt_true.1 h1), ← h2]

def bitIn (k : IntKind) (m n c : Nat) : Option Value := cond (Nat.blt m (lim k)) (cond (Nat.blt n (lim k)) (natIn k c) none) none

def natOp (op : BinOp) (k : IntKind) (m n : Nat) : Option Value :=
  match op with
  | .add => natIn k (Nat.add m n)
  | .sub => cond (Nat.ble n m) (natIn k (Nat.sub m n)) none
  | .mul => natIn k (Nat.mul m n)
  | .lss => some (.bool (Nat.blt m n))
  | .leq => some (.bool (Nat.ble m n))
  | .gtr => some (.bool (Nat.blt n m))
  | .geq => some (.bool (Nat.ble n m))
  | .eql => some (.bool (Nat.beq m n))
  | .neq => some (.bool (!(Nat.beq m n)))
  | .and => bitIn k m n (Nat.land m n)
  | .or => bitIn k m n (Nat.lor m n)
  | .xor => bitIn k m n (Nat.xor m n)
  | .rem => cond (Nat.beq n 0) none (some (.int k (.ofNat (Nat.mod m n))))
  | .quo => cond (Nat.beq n 0) none (natIn k (Nat.div m n))
  | _ => none

def natSh (op : BinOp) (k : IntKind) (m n : Nat) : Option Value :=
  match op with
  | .shl => cond (Nat.blt n k.bits) (natIn k (Nat.mul m (Nat.pow 2 n))) none
  | .shr => cond (Nat.blt n k.bits) (some (.int k (.ofNat (Nat.div m (Nat.pow 2 n))))) none
  | _ => none

def natBin (op : BinOp) (a b : Value) : Option Value :=
  match a, b with
  | .int k (.ofNat m), .int k' (.ofNat n) => orElse (natSh op k m n) (cond (Nat.beq (ikn k) (ikn k')) (natOp op k m n) none)
  | _, _ => none

theorem ofInt_nat (b m : Nat) : (BitVec.ofInt b (Int.ofNat m)) = BitVec.ofNat b m := by simp

theorem natOp_run {P : Program} {op : BinOp} {k : IntKind} {m n : Nat} {v : Value} (h : natOp op k m n = some v) (t : TypeId) (w : World) :
    (binOp op t (.int k (.ofNat m)) (.int k (.ofNat n))).run P w = .ok v w := by
  have bits : ∀ c, bitIn k m n c = some v → m < 2 ^ k.bits ∧ n < 2 ^ k.bits ∧ v = .int k (k.wrap (Int.ofNat c)) := fun c hb => by
    unfold bitIn at hb
    obtain ⟨h1, h2⟩ := cond_some hb
    obtain ⟨h2, h3⟩ := cond_some h2
    exact ⟨Nat.lt_of_lt_of_le (blt_true.1 h1) (lim_bits k), Nat.lt_of_lt_of_le (blt_true.1 h2) (lim_bits k), natIn_some h3⟩
  unfold natOp at h
  split at h
  · rw [natIn_some h]; simp [binOp, Op.intArith]
  · obtain ⟨h1, h2⟩ := cond_some h
    rw [natIn_some h2]
    have := nble_true h1
    simp [binOp, Op.intArith, Int.ofNat_sub this]
  · rw [natIn_some h]; simp [binOp, Op.intArith]
  · simp only [Option.some.injEq] at h; subst h
    simp only [binOp, ne_eq, not_true_eq_false, if_false, Op.intCmp, Sem.run_pure, Result.ok.injEq, Value.bool.injEq, and_true]
    rw [Bool.eq_iff_iff]; simp [blt_true]
  · simp only [Option.some.injEq] at h; subst h
    simp only [binOp, ne_eq, not_true_eq_false, if_false, Op.intCmp, Sem.run_pure, Result.ok.injEq, Value.bool.injEq, and_true]
    rw [Bool.eq_iff_iff]; simp
  · simp only [Option.some.injEq] at h; subst h
    simp only [binOp, ne_eq, not_true_eq_false, if_false, Op.intCmp, Sem.run_pure, Result.ok.injEq, Value.bool.injEq, and_true]
    rw [Bool.eq_iff_iff]; simp [blt_true]
  · simp only [Option.some.injEq] at h; subst h
    simp only [binOp, ne_eq, not_true_eq_false, if_false, Op.intCmp, Sem.run_pure, Result.ok.injEq, Value.bool.injEq, and_true]
    rw [Bool.eq_iff_iff]; simp
  · simp only [Option.some.injEq] at h; subst h
    simp only [binOp, ne_eq, not_true_eq_false, if_false, Op.intCmp, Sem.run_pure, Result.ok.injEq, Value.bool.injEq, and_true]
    rw [Bool.eq_iff_iff]; simp; omega
  · simp only [Option.some.injEq] at h; subst h
    simp only [binOp, ne_eq, not_true_eq_false, if_false, Op.intCmp, Sem.run_pure, Result.ok.injEq, Value.bool.injEq, and_true]
    rw [Bool.eq_iff_iff]
    by_cases e : m = n
    · subst e; simp
    · have : Nat.beq m n = false := nbeq e
      simp [this]; omega
  · obtain ⟨h1, h2, h3⟩ := bits _ h
    subst h3
    simp only [binOp, ne_eq, not_true_eq_false, if_false, Op.intBits, Sem.run_pure, ofInt_nat, BitVec.toNat_and, BitVec.toNat_ofNat, Nat.mod_eq_of_lt h1, Nat.mod_eq_of_lt h2]
    rfl
  · obtain ⟨h1, h2, h3⟩ := bits _ h
    subst h3
    simp only [binOp, ne_eq, not_true_eq_false, if_false, Op.intBits, Sem.run_pure, ofInt_nat, BitVec.toNat_or, BitVec.toNat_ofNat, Nat.mod_eq_of_lt h1, Nat.mod_eq_of_lt h2]
    rfl
  · obtain ⟨h1, h2, h3⟩ := bits _ h
    subst h3
    simp only [binOp, ne_eq, not_true_eq_false, if_false, Op.intBits, Sem.run_pure, ofInt_nat, BitVec.toNat_xor, BitVec.toNat_ofNat, Nat.mod_eq_of_lt h1, Nat.mod_eq_of_lt h2]
    rfl
  · cases hn : Nat.beq n 0 with
    | true => rw [hn] at h; cases h
    | false =>
      rw [hn] at h
      simp only [cond_false, Option.some.injEq] at h; subst h
      have h0 : ¬ (Int.ofNat n = 0) := fun e => by
        have : n = 0 := by simpa using e
        subst this; cases hn
      simp only [binOp, ne_eq, not_true_eq_false, if_false, Op.intDiv, h0, Sem.run_pure]
      rfl
  · cases hn : Nat.beq n 0 with
    | true => rw [hn] at h; cases h
    | false =>
      rw [hn] at h
      simp only [cond_false] at h
      rw [natIn_some h]
      have h0 : ¬ (Int.ofNat n = 0) := fun e => by
        have : n = 0 := by simpa using e
        subst this; cases hn
      simp only [binOp, ne_eq, not_true_eq_false, if_false, Op.intDiv, h0, Sem.run_pure]
      rfl
  · cases h

theorem natSh_run {P : Program} {op : BinOp} {k k' : IntKind} {m n : Nat} {v : Value} (h : natSh op k m n = some v) (t : TypeId) (w : World) :
    (binOp op t (.int k (.ofNat m)) (.int k' (.ofNat n))).run P w = .ok v w := by
  have hn : ¬ (Int.ofNat n < 0) := by simp
  have ht : (Int.ofNat n).toNat = n := rfl
  unfold natSh at h
  split at h
  · obtain ⟨h1, h2⟩ := cond_some h
    rw [natIn_some h2]
    have h3 : min n k.bits = n := Nat.min_eq_left (Nat.le_of_lt (blt_true.1 h1))
    unfold binOp Op.shift
    simp only [hn, if_false, Sem.run_pure, ht, h3]
    congr 3
  · obtain ⟨h1, h2⟩ := cond_some h
    simp only [Option.some.injEq] at h2; subst h2
    have h3 : min n k.bits = n := Nat.min_eq_left (Nat.le_of_lt (blt_true.1 h1))
    unfold binOp Op.shift
    simp only [hn, if_false, Sem.run_pure, ht, h3]
    congr 2
    rw [Int.fdiv_eq_ediv_of_nonneg _ (Int.le_of_lt (Int.pow_pos (by decide)))]
    norm_cast
  · cases h

def quickX (P : Program) (tm : Operand → Value) (o : Oper) : Option Value :=
  match o.op with
  | .binOp op _ x y _ => natBin op (tm x) (tm y)
  | .unOp .not _ x => match tm x with
    | .bool b => some (.bool (!b))
    | _ => none
  | _ => none

theorem guard_int (op : BinOp) (t : TypeId) (x y : Operand) (k : IntKind) (n : Int) (b : Value) (P : Program) (w : World) : (eqGuard op t x y (.int k n) b).run P w = .ok () w := by
  cases op <;> rfl

theorem natBin_shape {op : BinOp} {k k' : IntKind} {m n : Nat} {v : Value} (h : orElse (natSh op k m n) (cond (Nat.beq (ikn k) (ikn k')) (natOp op k m n) none) = some v) :
    ∃ k2 c, v = .int k2 c ∨ ∃ b, v = .bool b := by
  rcases orElse_some h with h | h
  · unfold natSh natIn at h
    split at h
    · obtain ⟨_, h⟩ := cond_some h
      obtain ⟨_, h⟩ := cond_some h
      exact ⟨_, _, .inl (Option.some.inj h).symm⟩
    · obtain ⟨_, h⟩ := cond_some h
      exact ⟨_, _, .inl (Option.some.inj h).symm⟩
    · cases h
  · obtain ⟨_, h⟩ := cond_some h
    unfold natOp bitIn natIn at h
    split at h
    all_goals first
      | exact ⟨.i8, 0, .inr ⟨_, (Option.some.inj h).symm⟩⟩
      | (obtain ⟨_, h⟩ := cond_some h; exact ⟨_, _, .inl (Option.some.inj h).symm⟩)
      | (obtain ⟨_, h⟩ := cond_some h; obtain ⟨_, h⟩ := cond_some h; exact ⟨_, _, .inl (Option.some.inj h).symm⟩)
      | (obtain ⟨_, h⟩ := cond_some h; obtain ⟨_, h⟩ := cond_some h; obtain ⟨_, h⟩ := cond_some h; exact ⟨_, _, .inl (Option.some.inj h).symm⟩)
      | (cases hn : Nat.beq n 0 with
         | true => rw [hn] at h; cases h
         | false => rw [hn] at h; simp only [cond_false] at h; first | exact ⟨_, _, .inl (Option.some.inj h).symm⟩ | (obtain ⟨_, h⟩ := cond_some h; exact ⟨_, _, .inl (Option.some.inj h).symm⟩))
      | cases h

theorem quickX_run {P : Program} {ρ : Nat → Loc} {tm cev : Operand → Value} {o : Oper} {v : Value} (h : quickX P tm o = some v)
    (hev : ∀ x, x ∈ o.op.operands → cev x = ren ρ (tm x)) (w : World) :
    (execOp cev o).run P w = .ok (.value (ren ρ v)) w := by
  unfold quickX at h
  split at h
  · rename_i op t x y yt ho
    rw [ho] at hev
    unfold natBin at h
    split at h
    · rename_i k m k' n hx hy
      have hv := natBin_shape h
      have hr : ren ρ v = v := by
        obtain ⟨k2, c, rfl | ⟨b, rfl⟩⟩ := hv <;> simp [ren]
      have hb : (binOp op t (.int k (.ofNat m)) (.int k' (.ofNat n))).run P w = .ok v w := by
        rcases orElse_some h with h | h
        · exact natSh_run h t w
        · obtain ⟨h1, h2⟩ := cond_some h
          have := ikn_inj h1
          subst this
          exact natOp_run h2 t w
      simp only [execOp, ho, Sem.run_bind, hev x (by simp [Op.operands]), hev y (by simp [Op.operands]), hx, hy, ren, guard_int, Result.andThen_ok, hb, hr, Sem.run_pure]
    · cases h
  · rename_i t x ho
    rw [ho] at hev
    split at h
    · rename_i b hb
      simp only [Option.some.injEq] at h; subst h
      simp only [execOp, ho, Sem.run_bind, hev x (by simp [Op.operands]), hb, ren, Op.unary, Sem.run_pure, Result.andThen_ok]
    · cases h
  · cases h

end
end Go.AX

namespace Go.AX
noncomputable section
open Go

structure St where
  tmps : Tr Value
  n : Nat
  h : H

def tmpv (s : St) (t : Nat) : Value :=
  match s.tmps.get t with
  | some v => v
  | none => undefV

def ev (s : St) : Operand → Value
  | .tmp t => tmpv s t
  | .const v => v
  | .global g => .pointer (some ⟨g, 0, none⟩)
  | .func f => .func (.func f) #[] #[]

def St.put (s : St) (h : H) (d : Option Nat) (v : Value) : St :=
  match d with
  | some d => cond (Nat.blt d s.n) { tmps := s.tmps.set d v, n := s.n, h := h } { tmps := s.tmps, n := s.n, h := h }
  | none => { tmps := s.tmps, n := s.n, h := h }

def opnOK : Operand → Bool
  | .const v => free v
  | .global g => Nat.blt g 1000
  | _ => true

structure SimS (ρ : Nat → Loc) (s : St) (a : Act) (w : World) : Prop where
  sim : Sim ρ s.h w
  defers : a.defers = []
  size : a.tmps.size = s.n
  tm : ∀ t, t < s.n → a.tmps[t]? = some (ren ρ (tmpv s t))
  okt : ∀ t v, s.tmps.get t = some v → t < s.n ∧ ok s.h.size v = true

theorem ok_undef (n : Nat) : ok n undefV = true := by simp [undefV, ok, okA, okL]
theorem ren_undef (ρ : Nat → Loc) : ren ρ undefV = undefV := by simp [undefV, ren, renArr, renL]

theorem tmpv_ok {s : St} {n : Nat} (h : ∀ t v, s.tmps.get t = some v → t < s.n ∧ ok n v = true) (t : Nat) : ok n (tmpv s t) = true := by
  unfold tmpv
  split
  · rename_i v hv; exact (h t v hv).2
  · exact ok_undef n

theorem ev_eq {ρ : Nat → Loc} {s : St} {a : Act} {w : World} (hs : SimS ρ s a w) {x : Operand} (hx : opnOK x = true) : a.eval x = ren ρ (ev s x) := by
  cases x with
  | tmp t =>
    simp only [Act.eval, ev]
    by_cases ht : t < s.n
    · have := hs.tm t ht
      simp only [Array.getD_eq_getD_getElem?, this, Option.getD_some]
    · have h1 : a.tmps[t]? = none := Array.getElem?_eq_none (Nat.le_trans (Nat.le_of_eq hs.size) (Nat.not_lt.1 ht))
      simp only [Array.getD_eq_getD_getElem?, h1, Option.getD_none]
      unfold tmpv
      cases hg : s.tmps.get t with
      | none => exact (ren_undef ρ).symm
      | some v => exact absurd (hs.okt t v hg).1 ht
  | const v => simp only [Act.eval, ev]; exact (ren_free ρ v hx).symm
  | global g =>
    have hg : g < 1000 := blt_true.1 hx
    simp only [Act.eval, ev, ren, renA, hs.sim.glob g hg]
  | func f => simp [Act.eval, ev, ren, renArr, renL]

inductive R where
  | val (v : Value) (h : H)
  | call (f : FuncId) (args : Array Value)

def pureVal (P : Program) (tm : Operand → Value) (o : Oper) (h : H) : Option R :=
  match orElse (quickX P tm o) (pureX P tm o) with
  | some v => cond (ok h.size v) (some (.val v h)) none
  | none => none

def loadOp (P : Program) (tm : Operand → Value) (o : Oper) (h : H) : Option Value :=
  match o.op with
  | .load t a => loadX P t (tm a) h
  | _ => none

def opX (P : Program) (tm : Operand → Value) (o : Oper) (h : H) : Option R :=
  cond (o.op.operands.all opnOK)
    (match kind P o.op with
     | 0 => pureVal P tm o h
     | 1 => match loadOp P tm o h with
       | some v => some (.val v h)
       | none => none
     | 2 => match allocX P tm o with
       | some (cs, mk) => cond (okL h.size cs) (cond (ok (h.size + 1) (mk h.size)) (some (.val (mk h.size) (h.newCells cs 0 0))) none) none
       | none => none
     | _ => match callX P tm o with
       | some (f, args) => cond (goFn P f) (cond (okA h.size args) (some (.call f args)) none) (pureVal P tm o h)
       | none => match heavyX P tm o h with
         | some (v, h') => cond (ok h'.size v) (some (.val v h')) none
         | none => pureVal P tm o h) none

theorem row_done {P : Program} {ρ : Nat → Loc} {h : H} {w : World} {r : World → Result Next} {cs : List Value} {mk : Nat → Value} (s : Sim ρ h w) (hr : NewRow P ρ r cs mk) (hok : okL h.size cs = true) :
    Res P ρ h w (r w) (mk h.size) (h.newCells cs 0 0) := by
  obtain ⟨el, he⟩ := hr w h.size
  rw [okL_eq] at hok
  have hok := List.all_eq_true.1 hok
  have hk : BlkOK (ext ρ h.size ⟨w.heap.size, 0, 0⟩) (h.size + 1) ⟨w.heap.size, 0, 0⟩ { w with heap := w.heap.push (.cells (cs.map (ren ρ)).toArray el (0, 0)) } (.cells cs 0 h.size 0 0) := by
    refine ⟨fun v hv => ok_mono (Nat.le_succ _) v (hok v hv), (cs.map (ren ρ)).toArray, el, (0, 0), by simp, fun i v hi => ?_, .inl rfl, by simp⟩
    rw [ren_agree (ext_agree ρ h.size _) v (hok v (List.mem_of_getElem? hi))]
    simp [hi]
  obtain ⟨a, b⟩ := new_sim (k := .cells cs 0 h.size 0 0) (ex := 0) s ⟨rfl, rfl⟩ hk
  exact ⟨_, _, _, he, rfl, a, b⟩

theorem pureVal_run {P : Program} {ρ : Nat → Loc} {tm cev : Operand → Value} {o : Oper} {h : H} {w : World} {r : R} (s : Sim ρ h w) (hx : pureVal P tm o h = some r)
    (hev : ∀ x, x ∈ o.op.operands → cev x = ren ρ (tm x)) : ∃ v, r = .val v h ∧ ok h.size v = true ∧ Res P ρ h w ((execOp cev o).run P w) v h := by
  unfold pureVal at hx
  split at hx
  · rename_i v hv
    obtain ⟨h1, h2⟩ := cond_some hx
    simp only [Option.some.injEq] at h2; subst h2
    exact ⟨v, rfl, h1, .value (ren ρ v), w, ρ, (orElse_some hv).elim (fun hv => quickX_run hv hev w) (fun hv => pureX_run hv hev w), rfl, s, Step.refl _ _ _⟩
  · cases hx

theorem opX_run {P : Program} (hnn : NoNum P) {ρ : Nat → Loc} {tm cev : Operand → Value} {o : Oper} {h : H} {w : World} {r : R} (s : Sim ρ h w) (hx : opX P tm o h = some r)
    (hev : ∀ x, x ∈ o.op.operands → opnOK x = true → cev x = ren ρ (tm x)) :
    (∃ v h', r = .val v h' ∧ ok h'.size v = true ∧ Res P ρ h w ((execOp cev o).run P w) v h') ∨
    (∃ f args, r = .call f args ∧ okA h.size args = true ∧ (execOp cev o).run P w = .ok (.enter f (args.map (ren ρ))) w) := by
  unfold opX at hx
  obtain ⟨hop, hx⟩ := cond_some hx
  have hev : ∀ x, x ∈ o.op.operands → cev x = ren ρ (tm x) := fun x hx => hev x hx (Array.all_eq_true_iff_forall_mem.1 hop x hx)
  have hpv : ∀ r, pureVal P tm o h = some r → (∃ v h', r = .val v h' ∧ ok h'.size v = true ∧ Res P ρ h w ((execOp cev o).run P w) v h') := fun r hr => by
    obtain ⟨v, h1, h2, h3⟩ := pureVal_run s hr hev
    exact ⟨v, h, h1, h2, h3⟩
  split at hx
  · exact .inl (hpv r hx)
  · split at hx
    · rename_i v hv
      simp only [Option.some.injEq] at hx; subst hx
      unfold loadOp at hv
      split at hv
      · rename_i t a ho
        obtain ⟨h1, h2⟩ := load_run (P := P) hv s
        refine .inl ⟨v, h, rfl, h2, ?_⟩
        rw [ho] at hev
        simp only [execOp, ho, Sem.run_bind, hev a (by simp [Op.operands])]
        exact Res.ofSame s h1
      · cases hv
    · cases hx
  · split at hx
    · rename_i cs mk ha
      obtain ⟨h1, hx⟩ := cond_some hx
      obtain ⟨h2, hx⟩ := cond_some hx
      simp only [Option.some.injEq] at hx; subst hx
      exact .inl ⟨_, _, rfl, h2, row_done s (alloc_run ha hev) h1⟩
    · cases hx
  · split at hx
    · rename_i f args hc
      cases hg : goFn P f with
      | true =>
        rw [hg] at hx
        simp only [cond_true] at hx
        obtain ⟨h1, hx⟩ := cond_some hx
        simp only [Option.some.injEq] at hx; subst hx
        exact .inr ⟨f, args, rfl, h1, call_run hnn hc hg hev w⟩
      | false =>
        rw [hg] at hx
        simp only [cond_false] at hx
        exact .inl (hpv r hx)
    · split at hx
      · rename_i v h' hh
        obtain ⟨h1, hx⟩ := cond_some hx
        simp only [Option.some.injEq] at hx; subst hx
        exact .inl ⟨v, h', rfl, h1, heavy_run s hh hev⟩
      · exact .inl (hpv r hx)

/-! ### regions in the order of the text -/
def yieldX (ops : Array Oper) (s : St) (j : Nat) : Option Bool :=
  match (ops[j]?).bind (·.dst) with
  | some d => match s.tmps.get d with
    | some (.bool b) => some b
    | _ => none
  | none => none

def wantX (ops : Array Oper) (s : St) (o : Oper) : Bool := Region.wanted o (yieldX ops s)

abbrev Call := FuncId → Array Value → H → Option (Value × H)

def CallOK (P : Program) (call : Call) : Prop := NoNum P ∧ ∀ f args h v h', call f args h = some (v, h') → okA h.size args = true →
  ok h'.size v = true ∧ ∀ ρ w, Sim ρ h w → Calls P f (args.map (ren ρ)) w (fun e w' => ∃ ρ', e = .returned (ren ρ' v) ∧ Sim ρ' h' w' ∧ Step ρ h w ρ' h' w')

def stepX (P : Program) (call : Call) (s : St) (o : Oper) : Option (Value × H) :=
  match opX P (ev s) o s.h with
  | some (.val v h) => some (v, h)
  | some (.call f args) => call f args s.h
  | none => none

/-! ### heads first: so that no chain of work put off grows -/
section
variable {β : Type}
def frcN (n : Nat) (k : Nat → β) : β :=
  match n with
  | 0 => k 0
  | m + 1 => k (m + 1)
theorem frcN_eq (n : Nat) (k : Nat → β) : frcN n k = k n := by cases n <;> rfl
def frcI (n : Int) (k : Int → β) : β :=
  match n with
  | .ofNat m => frcN m fun m => k (.ofNat m)
  | .negSucc m => frcN m fun m => k (.negSucc m)
theorem frcI_eq (n : Int) (k : Int → β) : frcI n k = k n := by cases n <;> simp [frcI, frcN_eq]
def frcK (n : IntKind) (k : IntKind → β) : β :=
  match n with
  | .i8 => k .i8
  | .i16 => k .i16
  | .i32 => k .i32
  | .i64 => k .i64
  | .u8 => k .u8
  | .u16 => k .u16
  | .u32 => k .u32
  | .u64 => k .u64
theorem frcK_eq (n : IntKind) (k : IntKind → β) : frcK n k = k n := by cases n <;> rfl
def frcL {α : Type} : List α → (List α → β) → β
  | [], k => k []
  | x :: l, k => frcL l fun l => k (x :: l)
theorem frcL_eq {α : Type} : ∀ (l : List α) (k : List α → β), frcL l k = k l
  | [], k => rfl
  | x :: l, k => by simp only [frcL]; rw [frcL_eq l]
def frcA (a : Addr) (k : Addr → β) : β :=
  match a with
  | ⟨b, o, s⟩ => frcN b fun b => frcN o fun o => match s with
    | none => k ⟨b, o, none⟩
    | some s => k ⟨b, o, some s⟩
theorem frcA_eq (a : Addr) (k : Addr → β) : frcA a k = k a := by
  obtain ⟨b, o, s⟩ := a
  cases s <;> simp [frcA, frcN_eq]
/-- one layer of a value -/
def frcV1 (v : Value) (k : Value → β) : β :=
  match v with
  | .bool b => match b with
    | true => k (.bool true)
    | false => k (.bool false)
  | .int kd n => frcK kd fun kd => frcI n fun n => k (.int kd n)
  | .pointer a => match a with
    | none => k (.pointer none)
    | some a => frcA a fun a => k (.pointer (some a))
  | .slice a l c => frcN l fun l => frcN c fun c => match a with
    | none => k (.slice none l c)
    | some a => frcA a fun a => k (.slice (some a) l c)
  | .string ⟨⟨l⟩⟩ => frcL l fun l => k (.string ⟨⟨l⟩⟩)
  | .agg ⟨l⟩ => frcL l fun l => k (.agg ⟨l⟩)
  | .tuple ⟨l⟩ => frcL l fun l => k (.tuple ⟨l⟩)
  | .nilIface => k .nilIface
  | .nilFunc => k .nilFunc
  | .iface t v => k (.iface t v)
  | v => k v
theorem frcV1_eq (v : Value) (k : Value → β) : frcV1 v k = k v := by
  cases v with
  | bool b => cases b <;> rfl
  | int kd n => simp only [frcV1, frcK_eq, frcI_eq]
  | pointer a => cases a with
    | none => rfl
    | some a => simp only [frcV1, frcA_eq]
  | slice a l c => cases a with
    | none => simp only [frcV1, frcN_eq]
    | some a => simp only [frcV1, frcN_eq, frcA_eq]
  | string s => obtain ⟨⟨l⟩⟩ := s; simp only [frcV1, frcL_eq]
  | agg a => obtain ⟨l⟩ := a; simp only [frcV1, frcL_eq]
  | tuple a => obtain ⟨l⟩ := a; simp only [frcV1, frcL_eq]
  | _ => rfl
/-- the cells' heads, too -/
def frcVs : List Value → (List Value → β) → β
  | [], k => k []
  | x :: l, k => frcV1 x fun x => frcVs l fun l => k (x :: l)
theorem frcVs_eq : ∀ (l : List Value) (k : List Value → β), frcVs l k = k l
  | [], k => rfl
  | x :: l, k => by simp only [frcVs, frcV1_eq]; rw [frcVs_eq l]
def frcV (v : Value) (k : Value → β) : β :=
  match v with
  | .agg ⟨l⟩ => frcVs l fun l => k (.agg ⟨l⟩)
  | .tuple ⟨l⟩ => frcVs l fun l => k (.tuple ⟨l⟩)
  | .iface t v => frcN t fun t => frcV1 v fun v => k (.iface t v)
  | v => frcV1 v k
theorem frcV_eq (v : Value) (k : Value → β) : frcV v k = k v := by
  unfold frcV
  split <;> simp only [frcVs_eq, frcN_eq, frcV1_eq]
def frcH (h : H) (k : H → β) : β :=
  match h with
  | ⟨b, g, n⟩ => Tr.frc b fun b => Tr.frc g fun g => frcN n fun n => k ⟨b, g, n⟩
theorem frcH_eq (h : H) (k : H → β) : frcH h k = k h := by
  obtain ⟨b, g, n⟩ := h
  simp [frcH, Tr.frc_eq, frcN_eq]
def putK (s : St) (h : H) (d : Option Nat) (v : Value) (k : St → β) : β :=
  match s with
  | ⟨t, n, _⟩ => match d with
    | some d => cond (Nat.blt d n) (Tr.frc (t.set d v) fun t => k ⟨t, n, h⟩) (k ⟨t, n, h⟩)
    | none => k ⟨t, n, h⟩
theorem putK_eq (s : St) (h : H) (d : Option Nat) (v : Value) (k : St → β) : putK s h d v k = k (s.put h d v) := by
  obtain ⟨t, n, h0⟩ := s
  unfold putK St.put
  cases d with
  | none => rfl
  | some d => simp only [Tr.frc_eq]; cases Nat.blt d n <;> rfl
def putM (s : St) (d : Option Nat) (v : Value) (k : St → β) : β :=
  match s with
  | ⟨t, n, h⟩ => match d with
    | some d => cond (Nat.blt d n) (Tr.frc (t.set d v) fun t => k ⟨t, n, h⟩) (k ⟨t, n, h⟩)
    | none => k ⟨t, n, h⟩
theorem putM_eq (s : St) (d : Option Nat) (v : Value) (k : St → β) : putM s d v k = k (s.put s.h d v) := by
  obtain ⟨t, n, h0⟩ := s
  unfold putM St.put
  cases d with
  | none => rfl
  | some d => simp only [Tr.frc_eq]; cases Nat.blt d n <;> rfl
end

/-- a temporary that is moved -/
def moveX (s : St) (op : Op) : Option Value :=
  match op with
  | .move (.tmp t) => s.tmps.get t
  | .assign (.tmp t) => s.tmps.get t
  | _ => none

def opsX (P : Program) (call : Call) (ops : Array Oper) : List Nat → St → Option St
  | [], s => some s
  | i :: l, s => match ops[i]? with
    | some o => cond (wantX ops s o)
      (match moveX s o.op with
       | some v => putM s o.dst v fun s => opsX P call ops l s
       | none => match stepX P call s o with
         | some (v, h) => frcV v fun v => frcH h fun h => putK s h o.dst v fun s => opsX P call ops l s
         | none => none)
      (putM s o.dst undefV fun s => opsX P call ops l s)
    | none => none

theorem yield_eq {ρ : Nat → Loc} {ops : Array Oper} {s : St} {a : Act} {w : World} (hs : SimS ρ s a w) (j : Nat) : yielded ops a.tmps j = yieldX ops s j := by
  unfold yielded yieldX
  cases hd : (ops[j]?).bind (·.dst) with
  | none => simp
  | some d =>
    simp only [Option.bind_some]
    by_cases ht : d < s.n
    · rw [hs.tm d ht]
      unfold tmpv
      cases hg : s.tmps.get d with
      | none => simp [ren_undef, undefV, ren, renArr, renL]
      | some v =>
        simp only
        cases v with
        | pointer a => cases a <;> simp [ren]
        | slice a l c => cases a <;> simp [ren]
        | map r => cases r <;> simp [ren]
        | _ => simp [ren]
    · have h1 : a.tmps[d]? = none := Array.getElem?_eq_none (Nat.le_trans (Nat.le_of_eq hs.size) (Nat.not_lt.1 ht))
      rw [h1]
      cases hg : s.tmps.get d with
      | none => rfl
      | some v => exact absurd (hs.okt d v hg).1 ht

theorem want_eq {ρ : Nat → Loc} {ops : Array Oper} {s : St} {a : Act} {w : World} (hs : SimS ρ s a w) (o : Oper) : Region.wanted o (yielded ops a.tmps) = wantX ops s o := by
  unfold wantX Region.wanted
  cases o.guard with
  | none => rfl
  | some g => simp only [yield_eq hs]

theorem put_simS {ρ ρ' : Nat → Loc} {s : St} {a : Act} {w w' : World} {h' : H} {v : Value} (hs : SimS ρ s a w) (sim : Sim ρ' h' w') (st : Step ρ s.h w ρ' h' w') (hv : ok h'.size v = true) (d : Option Nat) :
    SimS ρ' (s.put h' d v) (a.put d (ren ρ' v)) w' := by
  have keep : ∀ t, ren ρ' (tmpv s t) = ren ρ (tmpv s t) := fun t => ren_agree st.agree _ (tmpv_ok hs.okt t)
  have okk : ∀ t u, s.tmps.get t = some u → t < s.n ∧ ok h'.size u = true := fun t u hu => ⟨(hs.okt t u hu).1, ok_mono st.size _ (hs.okt t u hu).2⟩
  cases d with
  | none =>
    refine ⟨sim, hs.defers, hs.size, fun t ht => ?_, okk⟩
    show a.tmps[t]? = some (ren ρ' (tmpv s t))
    rw [keep]; exact hs.tm t ht
  | some d =>
    simp only [St.put, Act.put]
    cases hd : Nat.blt d s.n with
    | false =>
      simp only [cond_false]
      have hge : ¬ d < s.n := fun e => by rw [blt_true.2 e] at hd; cases hd
      have hsame : a.tmps.setIfInBounds d (ren ρ' v) = a.tmps := by
        apply Array.ext_getElem?
        intro i
        rw [Array.getElem?_setIfInBounds]
        split
        · rename_i e; subst e
          rw [Array.getElem?_eq_none (by have := hs.size; omega)]
          rw [if_neg (by have := hs.size; omega)]
        · rfl
      refine ⟨sim, hs.defers, by simp [hs.size], fun t ht => ?_, okk⟩
      rw [hsame]
      show a.tmps[t]? = some (ren ρ' (tmpv s t))
      rw [keep]; exact hs.tm t ht
    | true =>
      simp only [cond_true]
      have hlt := blt_true.1 hd
      refine ⟨sim, hs.defers, by simp [hs.size], fun t ht => ?_, fun t u hu => ?_⟩
      · rw [Array.getElem?_setIfInBounds]
        unfold tmpv
        simp only [Tr.get_set]
        by_cases e : t = d
        · subst e
          rw [if_pos rfl, if_pos (by rw [hs.size]; exact hlt)]
          simp
        · rw [if_neg (Ne.symm e), if_neg e]
          have := hs.tm t ht
          rw [this, ← keep]
          rfl
      · simp only [Tr.get_set] at hu
        split at hu
        · rename_i e; subst e
          simp only [Option.some.injEq] at hu; subst hu
          exact ⟨hlt, hv⟩
        · exact okk t u hu

/-- what one operation does, in the walk's words -/
theorem step_wp {P : Program} {call : Call} (hc : CallOK P call) {ρ : Nat → Loc} {s : St} {a : Act} {w : World} {o : Oper} {v : Value} {h' : H} (hs : SimS ρ s a w) (hx : stepX P call s o = some (v, h'))
    {next : Act → World → Prop} {Q : Exit → Act → World → Prop} (hnext : ∀ ρ' w', SimS ρ' (s.put h' o.dst v) (a.put o.dst (ren ρ' v)) w' → Step ρ s.h w ρ' h' w' → next (a.put o.dst (ren ρ' v)) w') :
    o.wp P a w next Q := by
  unfold stepX at hx
  unfold Oper.wp
  split at hx
  · rename_i u h2 ho
    simp only [Option.some.injEq, Prod.mk.injEq] at hx
    obtain ⟨rfl, rfl⟩ := hx
    rcases opX_run hc.1 hs.sim ho (fun x _ hok => ev_eq hs hok) with ⟨v', h3, e, hok, nx, w', ρ', hr, hn, hsim, hst⟩ | ⟨f, args, e, _⟩
    · simp only [R.val.injEq] at e
      obtain ⟨rfl, rfl⟩ := e
      rw [hr]
      have hgo := hnext ρ' w' (put_simS hs hsim hst hok _) hst
      cases nx with
      | value u' =>
        simp only [NextIs] at hn
        subst hn
        simpa only [Oper.upon] using hgo
      | skip =>
        simp only [NextIs] at hn
        rw [hn] at hgo
        exact hgo
      | _ => exact hn.elim
    · cases e
  · rename_i f args ho
    rcases opX_run hc.1 hs.sim ho (fun x _ hok => ev_eq hs hok) with ⟨v', h3, e, _⟩ | ⟨f', args', e, hok, hr⟩
    · cases e
    · simp only [R.call.injEq] at e
      obtain ⟨rfl, rfl⟩ := e
      rw [hr]
      simp only [Oper.upon]
      obtain ⟨hv, hcalls⟩ := hc.2 _ _ _ _ _ hx hok
      refine (hcalls ρ w hs.sim).mono fun e w' he => ?_
      obtain ⟨ρ', rfl, hsim, hst⟩ := he
      exact hnext ρ' w' (put_simS hs hsim hst hv _) hst
  · cases hx

theorem move_wp {P : Program} {ρ : Nat → Loc} {s : St} {a : Act} {w : World} {o : Oper} {v : Value} (hs : SimS ρ s a w) (hx : moveX s o.op = some v)
    {next : Act → World → Prop} {Q : Exit → Act → World → Prop} (hnext : ∀ ρ' w', SimS ρ' (s.put s.h o.dst v) (a.put o.dst (ren ρ' v)) w' → Step ρ s.h w ρ' s.h w' → next (a.put o.dst (ren ρ' v)) w') :
    o.wp P a w next Q := by
  have key : ∀ t, s.tmps.get t = some v → (o.op = .move (.tmp t) ∨ o.op = .assign (.tmp t)) → o.wp P a w next Q := fun t ht ho => by
    obtain ⟨hlt, hok⟩ := hs.okt t v ht
    have hev : a.eval (.tmp t) = ren ρ v := by
      rw [ev_eq hs (x := .tmp t) rfl]
      simp only [ev, tmpv, ht]
    have hgo := hnext ρ w (put_simS hs hs.sim (Step.refl _ _ _) hok _) (Step.refl _ _ _)
    unfold Oper.wp
    rcases ho with ho | ho
    · simp only [execOp, ho, Sem.run_pure, hev, Oper.upon]; exact hgo
    · simp only [execOp, ho, Sem.run_pure, hev, Oper.upon]; exact hgo
  unfold moveX at hx
  split at hx
  · rename_i t ho; exact key t hx (.inl ho)
  · rename_i t ho; exact key t hx (.inr ho)
  · cases hx

theorem opsX_wp {P : Program} {call : Call} (hc : CallOK P call) {ops : Array Oper} {Q : Exit → Act → World → Prop} : ∀ (l : List Nat) (s s' : St) (ρ : Nat → Loc) (a : Act) (w : World), opsX P call ops l s = some s' → SimS ρ s a w →
    (∀ ρ' a' w', SimS ρ' s' a' w' → Step ρ s.h w ρ' s'.h w' → Q .normal a' w') → wpOps P ops Q l a w := by
  intro l
  induction l with
  | nil =>
    intro s s' ρ a w hx hs hQ
    simp only [opsX, Option.some.injEq] at hx; subst hx
    exact hQ ρ a w hs (Step.refl _ _ _)
  | cons i l ih =>
    intro s s' ρ a w hx hs hQ
    have hh : ∀ (h : H) d v, (s.put h d v).h = h := fun h d v => by
      unfold St.put
      split
      · cases Nat.blt _ _ <;> rfl
      · rfl
    unfold opsX at hx
    simp only [frcV_eq, frcH_eq, putK_eq, putM_eq] at hx
    simp only [wpOps]
    split at hx
    · rename_i o ho
      rw [ho]
      simp only
      rw [want_eq hs]
      cases hw : wantX ops s o with
      | true =>
        rw [hw] at hx
        simp only [cond_true] at hx
        simp only [if_true]
        split at hx
        · rename_i v hm
          refine .inl (move_wp hs hm fun ρ' w' hs' hstep => ?_)
          exact ih _ _ ρ' _ w' hx hs' (fun ρ2 a2 w2 hs2 hst2 => hQ ρ2 a2 w2 hs2 (hstep.trans (by rw [hh] at hst2; exact hst2)))
        split at hx
        · rename_i v h' hst
          refine .inl (step_wp hc hs hst fun ρ' w' hs' hstep => ?_)
          exact ih _ _ ρ' _ w' hx hs' (fun ρ2 a2 w2 hs2 hst2 => hQ ρ2 a2 w2 hs2 (hstep.trans (by rw [hh] at hst2; exact hst2)))
        · cases hx
      | false =>
        rw [hw] at hx
        simp only [cond_false] at hx
        simp only [Bool.false_eq_true, if_false]
        have hp := put_simS hs hs.sim (Step.refl _ _ _) (ok_undef _) o.dst
        rw [ren_undef] at hp
        exact ih _ _ ρ _ w hx hp (fun ρ2 a2 w2 hs2 hst2 => hQ ρ2 a2 w2 hs2 (by rw [hh] at hst2; exact hst2))
    · cases hx

end
end Go.AX
