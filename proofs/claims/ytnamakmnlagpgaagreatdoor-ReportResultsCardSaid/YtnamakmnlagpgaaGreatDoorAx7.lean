import Derived.Test.YtnamakmnlagpgaaGreatDoorAx6
set_option linter.unusedVariables false
set_option linter.unusedSimpArgs false
namespace Go.AX
noncomputable section
open Go

/-! ### an op, looked at once for all -/
inductive K where
  | mv (t : Nat)
  | cst (v : Value)
  | cmp (f : Nat → Nat → Bool) (x y : Operand)
  | ari (f : Nat → Nat → Nat) (x y : Operand)
  | bin (op : BinOp) (x y : Operand)
  | pick (c a b : Operand)
  | fa (off : Nat) (x : Operand)
  | nilc (x : Operand)
  | ext (i : Nat) (x : Operand)
  | ld1 (x : Operand)
  | ldn (n : Nat) (x : Operand)
  | st (n : Nat) (a v : Operand)
  | call (f : FuncId) (args : List Operand)
  | slow

def cmpOf : BinOp → Option (Nat → Nat → Bool)
  | .lss => some Nat.blt
  | .leq => some Nat.ble
  | .gtr => some fun m n => Nat.blt n m
  | .geq => some fun m n => Nat.ble n m
  | .eql => some Nat.beq
  | .neq => some fun m n => !(Nat.beq m n)
  | _ => none

def ariOf : BinOp → Option (Nat → Nat → Nat)
  | .add => some Nat.add
  | .mul => some Nat.mul
  | _ => none

def binK (op : BinOp) (x y : Operand) : K :=
  match cmpOf op with
  | some f => .cmp f x y
  | none => match ariOf op with
    | some f => .ari f x y
    | none => .bin op x y

def faOf (P : Program) (s : TypeId) (f : Nat) : Option Nat :=
  match P.underlying s with
  | some (.struct fs) => match fs[f]? with
    | some fd => match sizeB P fd.type with
      | some (_ + 1) => some fd.offset
      | _ => none
    | none => none
  | _ => none

def ldK (P : Program) (t : TypeId) (a : Operand) : K :=
  match isAggB P t with
  | some true => match sizeB P t with
    | some n => .ldn n a
    | none => .slow
  | some false => match sizeB P t with
    | some _ => .ld1 a
    | none => .slow
  | none => .slow

def kOf (P : Program) (op : Op) : K :=
  match op with
  | .move (.tmp t) => .mv t
  | .assign (.tmp t) => .mv t
  | .move (.const v) => cond (free v) (.cst v) .slow
  | .assign (.const v) => cond (free v) (.cst v) .slow
  | .binOp op _ x y _ => cond (opnOK x) (cond (opnOK y) (binK op x y) .slow) .slow
  | .pick c a b => cond (opnOK c) (cond (opnOK a) (cond (opnOK b) (.pick c a b) .slow) .slow) .slow
  | .fieldAddr s x f => cond (opnOK x) (match faOf P s f with
    | some n => .fa n x
    | none => .slow) .slow
  | .nilCheck x => cond (opnOK x) (.nilc x) .slow
  | .extract x i => cond (opnOK x) (.ext i x) .slow
  | .load t a => cond (opnOK a) (ldK P t a) .slow
  | .store t a v => cond (opnOK a) (cond (opnOK v) (match sizeB P t with
    | some n => .st n a v
    | none => .slow) .slow) .slow
  | .call { callee := .value (.func f), args, .. } => cond (goFn P f) (cond (args.toList.all opnOK) (.call f args.toList) .slow) .slow
  | _ => .slow

section
variable {β : Type}

def someV (r : Option Value) (k : Value → β) (no : β) : β :=
  match r with
  | some v => k v
  | none => no

def evK (s : St) (x : Operand) (k : Value → β) : β :=
  match x with
  | .tmp t => someV (s.tmps.get t) k (k undefV)
  | .const v => k v
  | x => k (ev s x)

theorem evK_eq (s : St) (x : Operand) (k : Value → β) : evK s x k = k (ev s x) := by
  cases x with
  | tmp t =>
    simp only [evK, ev, tmpv]
    cases s.tmps.get t <;> rfl
  | _ => rfl

def evL (s : St) : List Operand → (List Value → β) → β
  | [], k => k []
  | x :: l, k => evK s x fun v => evL s l fun vs => k (v :: vs)

theorem evL_eq (s : St) : ∀ (l : List Operand) (k : List Value → β), evL s l k = k (l.map (ev s))
  | [], k => rfl
  | x :: l, k => by simp only [evL, evK_eq]; rw [evL_eq s l]; rfl

def nat2 (a b : Value) (k : IntKind → Nat → Nat → β) (no : β) : β :=
  match a with
  | .int ka (.ofNat m) => match b with
    | .int kb (.ofNat n) => cond (Nat.beq (ikn ka) (ikn kb)) (k ka m n) no
    | _ => no
  | _ => no

theorem nat2_cases (a b : Value) (k : IntKind → Nat → Nat → β) (no : β) : nat2 a b k no = no ∨ ∃ ka m n, a = .int ka (.ofNat m) ∧ b = .int ka (.ofNat n) ∧ nat2 a b k no = k ka m n := by
  unfold nat2
  split
  · rename_i ka m
    split
    · rename_i kb n
      cases h : Nat.beq (ikn ka) (ikn kb) with
      | false => exact .inl rfl
      | true =>
        have := ikn_inj h
        subst this
        exact .inr ⟨ka, m, n, rfl, rfl, rfl⟩
    · exact .inl rfl
  · exact .inl rfl

def boolK (b : Bool) (k : Value → β) : β := cond b (k (.bool true)) (k (.bool false))
theorem boolK_eq (b : Bool) (k : Value → β) : boolK b k = k (.bool b) := by cases b <;> rfl

def limK (kd : IntKind) (c : Nat) (k : Value → β) (no : β) : β := frcN c fun c => cond (Nat.blt c (lim kd)) (k (.int kd (.ofNat c))) no
theorem limK_cases (kd : IntKind) (c : Nat) (k : Value → β) (no : β) : limK kd c k no = no ∨ (c < lim kd ∧ limK kd c k no = k (.int kd (.ofNat c))) := by
  unfold limK
  rw [frcN_eq]
  cases h : Nat.blt c (lim kd) with
  | false => exact .inl rfl
  | true => exact .inr ⟨blt_true.1 h, rfl⟩

def pickK (c : Value) (x y no : β) : β :=
  match c with
  | .bool t => cond t x y
  | _ => no

def addrK (v : Value) (k : Nat → Nat → β) (no : β) : β :=
  match v with
  | .pointer (some ⟨b, o, none⟩) => k b o
  | _ => no
theorem addrK_cases (v : Value) (k : Nat → Nat → β) (no : β) : addrK v k no = no ∨ ∃ b o, v = .pointer (some ⟨b, o, none⟩) ∧ addrK v k no = k b o := by
  unfold addrK
  split
  · exact .inr ⟨_, _, rfl, rfl⟩
  · exact .inl rfl

def tupK (v : Value) (i : Nat) (k : Value → β) (no : β) : β :=
  match v with
  | .tuple ⟨l⟩ => someV l[i]? k no
  | _ => no
theorem tupK_cases (v : Value) (i : Nat) (k : Value → β) (no : β) : tupK v i k no = no ∨ ∃ l u, v = .tuple ⟨l⟩ ∧ l[i]? = some u ∧ tupK v i k no = k u := by
  unfold tupK
  split
  · rename_i l
    cases h : l[i]? with
    | none => exact .inl rfl
    | some u => exact .inr ⟨l, u, rfl, h, rfl⟩
  · exact .inl rfl

/-- the first cell behind `o` -/
def nthK : List Value → Nat → (Value → β) → β → β
  | [], _, _, no => no
  | v :: l, o, k, no => frcN o fun o => match o with
    | 0 => k v
    | o + 1 => nthK l o k no
theorem nthK_cases : ∀ (l : List Value) (o : Nat) (k : Value → β) (no : β), nthK l o k no = no ∨ ∃ v, l[o]? = some v ∧ nthK l o k no = k v
  | [], _, _, no => .inl rfl
  | v :: l, o, k, no => by
    simp only [nthK, frcN_eq]
    cases o with
    | zero => exact .inr ⟨v, rfl, rfl⟩
    | succ o => simpa using nthK_cases l o k no

def cellsK (h : H) (b : Nat) (k : List Value → Nat → Nat → Nat → Nat → β) (no : β) : β :=
  match h.blks.get b with
  | some (.cells cs co g kk sz) => k cs co g kk sz
  | _ => no
theorem cellsK_cases (h : H) (b : Nat) (k : List Value → Nat → Nat → Nat → Nat → β) (no : β) : cellsK h b k no = no ∨ ∃ cs co g kk sz, h.blks.get b = some (.cells cs co g kk sz) ∧ cellsK h b k no = k cs co g kk sz := by
  unfold cellsK
  split
  · rename_i e; exact .inr ⟨_, _, _, _, _, e, rfl⟩
  · exact .inl rfl

def readK (h : H) (b o n : Nat) (k : List Value → β) (no : β) : β :=
  match h.read b o n with
  | some l => frcL l k
  | none => no
theorem readK_cases (h : H) (b o n : Nat) (k : List Value → β) (no : β) : readK h b o n k no = no ∨ ∃ l, h.read b o n = some l ∧ readK h b o n k no = k l := by
  unfold readK
  split
  · rename_i l e; exact .inr ⟨l, e, frcL_eq _ _⟩
  · exact .inl rfl

def writeK (h : H) (b o : Nat) (vs : List Value) (k : H → β) (no : β) : β :=
  cellsK h b (fun cs co g kk sz => cond (Nat.ble (o + vs.length) cs.length) (cond (Nat.ble roB b)
    (frcL (splice cs o vs) fun l => frcH ((h.trim b g (co + o)).put b (.cells l co g kk sz)) k) no) no) no
theorem writeK_cases (h : H) (b o : Nat) (vs : List Value) (k : H → β) (no : β) : writeK h b o vs k no = no ∨ ∃ h', h.write b o vs = some h' ∧ writeK h b o vs k no = k h' := by
  unfold writeK
  rcases cellsK_cases h b _ no with e | ⟨cs, co, g, kk, sz, hb, e⟩
  · exact .inl e
  · rw [e]
    cases h1 : Nat.ble (o + vs.length) cs.length with
    | false => exact .inl rfl
    | true => cases h2 : Nat.ble roB b with
      | false => exact .inl rfl
      | true =>
        refine .inr ⟨(h.trim b g (co + o)).put b (.cells (splice cs o vs) co g kk sz), ?_, ?_⟩
        · simp only [H.write, hb, h1, h2, cond_true]
        · simp only [cond_true, frcL_eq, frcH_eq]

def partsK (v : Value) (k : List Value → β) : β :=
  match v with
  | .agg ⟨l⟩ => k l
  | v => k [v]
end

def slowF (P : Program) (call : Call) (s : St) (o : Oper) (k : St → Option St) : Option St :=
  match stepX P call s o with
  | some (v, h) => frcV v fun v => frcH h fun h => putK s h o.dst v k
  | none => none

def callF (r : Option (Value × H)) (s : St) (d : Option Nat) (k : St → Option St) : Option St :=
  match r with
  | some (v, h) => frcV v fun v => frcH h fun h => putK s h d v k
  | none => none

def stF (s : St) (n : Nat) (vs : List Value) (a : Value) (d : Option Nat) (k : St → Option St) (no : Option St) : Option St :=
  cond (Nat.beq vs.length n) (cond (vs.all cellB) (addrK a (fun b o => writeK s.h b o vs (fun h => putK s h d undefV k) no) no) no) no

def runF (P : Program) (call : Call) (kk : K) (o : Oper) (s : St) (k : St → Option St) : Option St :=
  match kk with
  | .mv t => someV (s.tmps.get t) (fun v => putM s o.dst v k) (slowF P call s o k)
  | .cst v => putM s o.dst v k
  | .cmp f x y => evK s x fun a => evK s y fun b => nat2 a b (fun _ m n => boolK (f m n) fun v => putM s o.dst v k) (slowF P call s o k)
  | .ari f x y => evK s x fun a => evK s y fun b => nat2 a b (fun kd m n => limK kd (f m n) (fun v => putM s o.dst v k) (slowF P call s o k)) (slowF P call s o k)
  | .bin op x y => evK s x fun a => evK s y fun b => someV (natBin op a b) (fun v => frcV v fun v => putM s o.dst v k) (slowF P call s o k)
  | .pick c a b => evK s c fun c => pickK c (evK s a fun v => putM s o.dst v k) (evK s b fun v => putM s o.dst v k) (slowF P call s o k)
  | .fa off x => evK s x fun a => addrK a (fun b p => frcN (p + off) fun p => putM s o.dst (.pointer (some ⟨b, p, none⟩)) k) (slowF P call s o k)
  | .nilc x => evK s x fun a => addrK a (fun b p => putM s o.dst (.pointer (some ⟨b, p, none⟩)) k) (slowF P call s o k)
  | .ext i x => evK s x fun a => tupK a i (fun v => frcV v fun v => putM s o.dst v k) (slowF P call s o k)
  | .ld1 x => evK s x fun a => addrK a (fun b p => cellsK s.h b (fun cs _ _ _ _ => nthK cs p (fun v => frcV v fun v => putM s o.dst v k) (slowF P call s o k)) (slowF P call s o k)) (slowF P call s o k)
  | .ldn n x => evK s x fun a => addrK a (fun b p => readK s.h b p n (fun l => putM s o.dst (.agg ⟨l⟩) k) (slowF P call s o k)) (slowF P call s o k)
  | .st n a v => evK s a fun a => evK s v fun v => partsK v fun vs => stF s n vs a o.dst k (slowF P call s o k)
  | .call f args => evL s args fun l => callF (call f ⟨l⟩ s.h) s o.dst k
  | .slow => slowF P call s o k

def goF (P : Program) (call : Call) (ops : Array Oper) (kk : K) (o : Oper) (s : St) (k : St → Option St) : Option St :=
  match o.guard with
  | none => runF P call kk o s k
  | some _ => cond (wantX ops s o) (runF P call kk o s k) (putM s o.dst undefV k)

def opsF (P : Program) (call : Call) (ops : Array Oper) : List (K × Oper) → St → Option St
  | [], s => some s
  | i :: l, s => goF P call ops i.1 i.2 s fun s => opsF P call ops l s

def ksOf (P : Program) : List Oper → List (K × Oper)
  | [] => []
  | o :: l => (kOf P o.op, o) :: ksOf P l

/-! ### it is what the program does -/
def Steps (P : Program) (s : St) (o : Oper) (v : Value) (h' : H) : Prop := ∀ ρ a w, SimS ρ s a w → ∀ (next : Act → World → Prop) (Q : Exit → Act → World → Prop),
  (∀ ρ' w', SimS ρ' (s.put h' o.dst v) (a.put o.dst (ren ρ' v)) w' → Step ρ s.h w ρ' h' w' → next (a.put o.dst (ren ρ' v)) w') → o.wp P a w next Q

theorem steps_val {P : Program} {s : St} {o : Oper} {v : Value}
    (h : ∀ ρ a w, SimS ρ s a w → ok s.h.size v = true ∧ (execOp a.eval o).run P w = .ok (.value (ren ρ v)) w) : Steps P s o v s.h := by
  intro ρ a w hs next Q hnext
  obtain ⟨h1, h2⟩ := h ρ a w hs
  have hgo := hnext ρ w (put_simS hs hs.sim (Step.refl _ _ _) h1 _) (Step.refl _ _ _)
  unfold Oper.wp
  rw [h2]
  exact hgo

theorem ev_ok {ρ : Nat → Loc} {s : St} {a : Act} {w : World} (hs : SimS ρ s a w) {x : Operand} (hx : opnOK x = true) : ok s.h.size (ev s x) = true := by
  cases x with
  | tmp t => exact tmpv_ok hs.okt t
  | const v => exact ok_free v hx
  | global g =>
    have hg : g < 1000 := blt_true.1 hx
    have := hs.sim.big
    unfold roB at this
    simp only [ev, ok]
    exact blt_true.2 (by omega)
  | func f => simp [ev, ok, okA, okL]

theorem slowF_ok {P : Program} {call : Call} (hc : CallOK P call) {s s' : St} {o : Oper} {k : St → Option St} (h : slowF P call s o k = some s') :
    ∃ v h', k (s.put h' o.dst v) = some s' ∧ Steps P s o v h' := by
  unfold slowF at h
  split at h
  · rename_i v h1 hst
    simp only [frcV_eq, frcH_eq, putK_eq] at h
    exact ⟨v, h1, h, fun ρ a w hs next Q hnext => step_wp hc hs hst hnext⟩
  · cases h

theorem binK_ok {op : BinOp} {x y : Operand} : (∃ f, cmpOf op = some f ∧ binK op x y = .cmp f x y) ∨ (∃ f, ariOf op = some f ∧ binK op x y = .ari f x y) ∨ binK op x y = .bin op x y := by
  unfold binK
  split
  · exact .inl ⟨_, by assumption, rfl⟩
  · split
    · exact .inr (.inl ⟨_, by assumption, rfl⟩)
    · exact .inr (.inr rfl)

theorem cmpOf_ok {op : BinOp} {f : Nat → Nat → Bool} (h : cmpOf op = some f) (k : IntKind) (m n : Nat) : natBin op (.int k (.ofNat m)) (.int k (.ofNat n)) = some (.bool (f m n)) := by
  have hk : Nat.beq (ikn k) (ikn k) = true := Nat.beq_refl _
  cases op <;> simp only [cmpOf, Option.some.injEq, reduceCtorEq] at h <;> subst h <;> simp only [natBin, natSh, orElse, hk, cond_true, natOp]

theorem ariOf_ok {op : BinOp} {f : Nat → Nat → Nat} (h : ariOf op = some f) (k : IntKind) (m n : Nat) (hl : f m n < lim k) : natBin op (.int k (.ofNat m)) (.int k (.ofNat n)) = some (.int k (.ofNat (f m n))) := by
  have hk : Nat.beq (ikn k) (ikn k) = true := Nat.beq_refl _
  have hl := blt_true.2 hl
  cases op <;> simp only [ariOf, Option.some.injEq, reduceCtorEq] at h <;> subst h <;> simp only [natBin, natSh, orElse, hk, cond_true, natOp, natIn, hl]

/-- a quick number -/
theorem steps_bin {P : Program} {s : St} {o : Oper} {op : BinOp} {t t' : TypeId} {x y : Operand} {v : Value} (ho : o.op = .binOp op t x y t') (hx : opnOK x = true) (hy : opnOK y = true)
    (h : natBin op (ev s x) (ev s y) = some v) : Steps P s o v s.h := by
  refine steps_val fun ρ a w hs => ⟨?_, quickX_run (tm := ev s) (by simp only [quickX, ho]; exact h) (fun z hz => ?_) w⟩
  · unfold natBin at h
    split at h
    · obtain ⟨k2, c, rfl | ⟨b, rfl⟩⟩ := natBin_shape h <;> rfl
    · cases h
  · rw [ho] at hz
    simp only [Op.operands, List.mem_toArray, List.mem_cons, List.not_mem_nil, or_false] at hz
    rcases hz with rfl | rfl
    · exact ev_eq hs hx
    · exact ev_eq hs hy

theorem ok_elem {n : Nat} {l : List Value} {i : Nat} {v : Value} (h : okL n l = true) (hi : l[i]? = some v) : ok n v = true := by
  rw [okL_eq] at h
  exact List.all_eq_true.1 h v (List.mem_of_getElem? hi)

/-- one that is handed a value that the ops's own text gives -/
theorem steps_pure {P : Program} {s : St} {o : Oper} {v : Value} (hv : ∀ ρ a w, SimS ρ s a w → ok s.h.size v = true) (hx : ∀ x, x ∈ o.op.operands → opnOK x = true)
    (h : pureX P (ev s) o = some v) : Steps P s o v s.h :=
  steps_val fun ρ a w hs => ⟨hv ρ a w hs, pureX_run h (fun x hx' => ev_eq hs (hx x hx')) w⟩

theorem runF_ok {P : Program} {call : Call} (hc : CallOK P call) {s s' : St} {o : Oper} {k : St → Option St} (h : runF P call (kOf P o.op) o s k = some s') :
    ∃ v h', k (s.put h' o.dst v) = some s' ∧ Steps P s o v h' := by
  have slow := @slowF_ok P call hc s s' o k
  generalize hkk : kOf P o.op = kk at h
  unfold kOf at hkk
  split at hkk
  · rename_i t ho
    subst hkk
    simp only [runF] at h
    cases hg : s.tmps.get t with
    | none => rw [hg] at h; exact slow h
    | some v =>
      rw [hg] at h
      simp only [someV, putM_eq] at h
      exact ⟨v, s.h, h, fun ρ a w hs next Q hnext => move_wp hs (by rw [ho]; exact hg) hnext⟩
  · rename_i t ho
    subst hkk
    simp only [runF] at h
    cases hg : s.tmps.get t with
    | none => rw [hg] at h; exact slow h
    | some v =>
      rw [hg] at h
      simp only [someV, putM_eq] at h
      exact ⟨v, s.h, h, fun ρ a w hs next Q hnext => move_wp hs (by rw [ho]; exact hg) hnext⟩
  · rename_i v ho
    cases hf : free v with
    | false => rw [hf] at hkk; subst hkk; exact slow h
    | true =>
      rw [hf] at hkk; subst hkk
      simp only [cond_true, runF, putM_eq] at h
      exact ⟨v, s.h, h, steps_pure (fun _ _ _ _ => ok_free v hf) (fun x hx => by rw [ho] at hx; simp [Op.operands] at hx; subst hx; exact hf) (by simp only [pureX, ho, ev])⟩
  · rename_i v ho
    cases hf : free v with
    | false => rw [hf] at hkk; subst hkk; exact slow h
    | true =>
      rw [hf] at hkk; subst hkk
      simp only [cond_true, runF, putM_eq] at h
      exact ⟨v, s.h, h, steps_pure (fun _ _ _ _ => ok_free v hf) (fun x hx => by rw [ho] at hx; simp [Op.operands] at hx; subst hx; exact hf) (by simp only [pureX, ho, ev])⟩
  · rename_i op t x y t' ho
    cases hx : opnOK x with
    | false => rw [hx] at hkk; subst hkk; exact slow h
    | true =>
      cases hy : opnOK y with
      | false => rw [hx, hy] at hkk; subst hkk; exact slow h
      | true =>
        rw [hx, hy] at hkk
        simp only [cond_true] at hkk
        subst hkk
        rcases binK_ok (op := op) (x := x) (y := y) with ⟨f, hf, e⟩ | ⟨f, hf, e⟩ | e
        · rw [e] at h
          simp only [runF, evK_eq] at h
          rcases nat2_cases (ev s x) (ev s y) (fun _ m n => boolK (f m n) fun v => putM s o.dst v k) (slowF P call s o k) with e2 | ⟨ka, m, n, h1, h2, e2⟩
          · rw [e2] at h; exact slow h
          · rw [e2] at h
            simp only [boolK_eq, putM_eq] at h
            exact ⟨_, _, h, steps_bin ho hx hy (by rw [h1, h2]; exact cmpOf_ok hf ka m n)⟩
        · rw [e] at h
          simp only [runF, evK_eq] at h
          rcases nat2_cases (ev s x) (ev s y) (fun kd m n => limK kd (f m n) (fun v => putM s o.dst v k) (slowF P call s o k)) (slowF P call s o k) with e2 | ⟨ka, m, n, h1, h2, e2⟩
          · rw [e2] at h; exact slow h
          · rw [e2] at h
            rcases limK_cases ka (f m n) (fun v => putM s o.dst v k) (slowF P call s o k) with e3 | ⟨hl, e3⟩
            · rw [e3] at h; exact slow h
            · rw [e3] at h
              simp only [putM_eq] at h
              exact ⟨_, _, h, steps_bin ho hx hy (by rw [h1, h2]; exact ariOf_ok hf ka m n hl)⟩
        · rw [e] at h
          simp only [runF, evK_eq] at h
          cases hb : natBin op (ev s x) (ev s y) with
          | none => rw [hb] at h; exact slow h
          | some v =>
            rw [hb] at h
            simp only [someV, frcV_eq, putM_eq] at h
            exact ⟨_, _, h, steps_bin ho hx hy hb⟩
  · rename_i c x y ho
    cases hcc : opnOK c with
    | false => rw [hcc] at hkk; subst hkk; exact slow h
    | true =>
      cases hx : opnOK x with
      | false => rw [hcc, hx] at hkk; subst hkk; exact slow h
      | true =>
        cases hy : opnOK y with
        | false => rw [hcc, hx, hy] at hkk; subst hkk; exact slow h
        | true =>
          rw [hcc, hx, hy] at hkk
          simp only [cond_true] at hkk
          subst hkk
          simp only [runF, evK_eq, putM_eq] at h
          have hop : ∀ z, z ∈ o.op.operands → opnOK z = true := fun z hz => by
            rw [ho] at hz
            simp only [Op.operands, List.mem_toArray, List.mem_cons, List.not_mem_nil, or_false] at hz
            rcases hz with rfl | rfl | rfl <;> assumption
          unfold pickK at h
          split at h
          · rename_i t ht
            refine ⟨cond t (ev s x) (ev s y), s.h, ?_, steps_pure (fun ρ a w hs => ?_) hop (by simp only [pureX, ho, ht])⟩
            · cases t <;> exact h
            · cases t
              · exact ev_ok hs hy
              · exact ev_ok hs hx
          · exact slow h
  · rename_i st x f ho
    cases hx : opnOK x with
    | false => rw [hx] at hkk; subst hkk; exact slow h
    | true =>
      rw [hx] at hkk
      simp only [cond_true] at hkk
      have hop : ∀ z, z ∈ o.op.operands → opnOK z = true := fun z hz => by
        rw [ho] at hz
        simp only [Op.operands, List.mem_toArray, List.mem_cons, List.not_mem_nil, or_false] at hz
        rcases hz with rfl; assumption
      split at hkk
      · rename_i n hn
        subst hkk
        simp only [runF, evK_eq] at h
        rcases addrK_cases (ev s x) (fun b p => frcN (p + n) fun p => putM s o.dst (.pointer (some ⟨b, p, none⟩)) k) (slowF P call s o k) with e | ⟨b, p, h1, e⟩
        · rw [e] at h; exact slow h
        · rw [e] at h
          simp only [frcN_eq, putM_eq] at h
          refine ⟨_, _, h, steps_pure (fun ρ a w hs => ?_) hop ?_⟩
          · have := ev_ok hs hx
            rw [h1] at this
            exact this
          · simp only [pureX, ho, h1]
            unfold faOf at hn
            unfold fieldAddrX
            split at hn
            · rename_i fs hu
              split at hn
              · rename_i fd hfd
                split at hn
                · rename_i m hm
                  simp only [Option.some.injEq] at hn; subst hn
                  simp only [hu, hfd, hm]
                · cases hn
              · cases hn
            · cases hn
      · subst hkk; exact slow h
  · rename_i x ho
    cases hx : opnOK x with
    | false => rw [hx] at hkk; subst hkk; exact slow h
    | true =>
      rw [hx] at hkk
      simp only [cond_true] at hkk
      subst hkk
      have hop : ∀ z, z ∈ o.op.operands → opnOK z = true := fun z hz => by
        rw [ho] at hz
        simp only [Op.operands, List.mem_toArray, List.mem_cons, List.not_mem_nil, or_false] at hz
        rcases hz with rfl; assumption
      simp only [runF, evK_eq] at h
      rcases addrK_cases (ev s x) (fun b p => putM s o.dst (.pointer (some ⟨b, p, none⟩)) k) (slowF P call s o k) with e | ⟨b, p, h1, e⟩
      · rw [e] at h; exact slow h
      · rw [e] at h
        simp only [putM_eq] at h
        refine ⟨_, _, h, steps_pure (fun ρ a w hs => ?_) hop ?_⟩
        · have := ev_ok hs hx
          rw [h1] at this
          exact this
        · simp only [pureX, ho, h1, nilCheckX]
  · rename_i x i ho
    cases hx : opnOK x with
    | false => rw [hx] at hkk; subst hkk; exact slow h
    | true =>
      rw [hx] at hkk
      simp only [cond_true] at hkk
      subst hkk
      have hop : ∀ z, z ∈ o.op.operands → opnOK z = true := fun z hz => by
        rw [ho] at hz
        simp only [Op.operands, List.mem_toArray, List.mem_cons, List.not_mem_nil, or_false] at hz
        rcases hz with rfl; assumption
      simp only [runF, evK_eq] at h
      rcases tupK_cases (ev s x) i (fun v => frcV v fun v => putM s o.dst v k) (slowF P call s o k) with e | ⟨l, u, h1, h2, e⟩
      · rw [e] at h; exact slow h
      · rw [e] at h
        simp only [frcV_eq, putM_eq] at h
        refine ⟨_, _, h, steps_pure (fun ρ a w hs => ?_) hop ?_⟩
        · have := ev_ok hs hx
          rw [h1] at this
          exact ok_elem this h2
        · simp only [pureX, ho, h1]
          simpa using h2
  · rename_i t x ho
    cases hx : opnOK x with
    | false => rw [hx] at hkk; subst hkk; exact slow h
    | true =>
      rw [hx] at hkk
      simp only [cond_true] at hkk
      have load : ∀ v, loadX P t (ev s x) s.h = some v → Steps P s o v s.h := fun v hl => steps_val fun ρ a w hs => by
        obtain ⟨h1, h2⟩ := load_run (P := P) hl hs.sim
        refine ⟨h2, ?_⟩
        simp only [execOp, ho, Sem.run_bind, ev_eq hs hx, h1, Result.andThen_ok, Sem.run_pure]
      unfold ldK at hkk
      split at hkk
      · rename_i hag
        split at hkk
        · rename_i n hn
          subst hkk
          simp only [runF, evK_eq] at h
          rcases addrK_cases (ev s x) (fun b p => readK s.h b p n (fun l => putM s o.dst (.agg ⟨l⟩) k) (slowF P call s o k)) (slowF P call s o k) with e | ⟨b, p, h1, e⟩
          · rw [e] at h; exact slow h
          · rw [e] at h
            rcases readK_cases s.h b p n (fun l => putM s o.dst (.agg ⟨l⟩) k) (slowF P call s o k) with e2 | ⟨l, hl, e2⟩
            · rw [e2] at h; exact slow h
            · rw [e2] at h
              simp only [putM_eq] at h
              exact ⟨_, _, h, load _ (by simp only [loadX, h1, hag, hn, hl])⟩
        · subst hkk; exact slow h
      · rename_i hag
        split at hkk
        · rename_i n hn
          subst hkk
          simp only [runF, evK_eq] at h
          rcases addrK_cases (ev s x) (fun b p => cellsK s.h b (fun cs _ _ _ _ => nthK cs p (fun v => frcV v fun v => putM s o.dst v k) (slowF P call s o k)) (slowF P call s o k)) (slowF P call s o k) with e | ⟨b, p, h1, e⟩
          · rw [e] at h; exact slow h
          · rw [e] at h
            rcases cellsK_cases s.h b (fun cs _ _ _ _ => nthK cs p (fun v => frcV v fun v => putM s o.dst v k) (slowF P call s o k)) (slowF P call s o k) with e2 | ⟨cs, co, g, kk, sz, hb, e2⟩
            · rw [e2] at h; exact slow h
            · rw [e2] at h
              rcases nthK_cases cs p (fun v => frcV v fun v => putM s o.dst v k) (slowF P call s o k) with e3 | ⟨v, hv, e3⟩
              · rw [e3] at h; exact slow h
              · rw [e3] at h
                simp only [frcV_eq, putM_eq] at h
                refine ⟨_, _, h, load _ ?_⟩
                have hlt : p < cs.length := by
                  rcases Nat.lt_or_ge p cs.length with h | h
                  · exact h
                  · rw [List.getElem?_eq_none h] at hv; cases hv
                have hr : s.h.read b p 1 = some [v] := by
                  simp only [H.read, hb]
                  rw [show Nat.ble (p + 1) cs.length = true from Nat.ble_eq_true_of_le hlt]
                  simp only [cond_true, Option.some.injEq]
                  rw [List.getElem?_eq_getElem hlt, Option.some.injEq] at hv
                  rw [List.drop_eq_getElem_cons hlt, hv]
                  rfl
                simp only [loadX, h1, hag, hn, hr]
        · subst hkk; exact slow h
      · subst hkk; exact slow h
  · rename_i t x y ho
    cases hx : opnOK x with
    | false => rw [hx] at hkk; subst hkk; exact slow h
    | true =>
      cases hy : opnOK y with
      | false => rw [hx, hy] at hkk; subst hkk; exact slow h
      | true =>
        rw [hx, hy] at hkk
        simp only [cond_true] at hkk
        split at hkk
        · rename_i n hn
          subst hkk
          simp only [runF, evK_eq] at h
          have hp : ∀ {β : Type} (kk : List Value → β), partsK (ev s y) kk = kk (ev s y).cells.toList := fun kk => by
            cases ev s y <;> rfl
          rw [hp] at h
          unfold stF at h
          cases h1 : Nat.beq (ev s y).cells.toList.length n with
          | false => rw [h1] at h; exact slow h
          | true =>
            cases h2 : (ev s y).cells.toList.all cellB with
            | false => rw [h1, h2] at h; exact slow h
            | true =>
              rw [h1, h2] at h
              simp only [cond_true] at h
              rcases addrK_cases (ev s x) (fun b p => writeK s.h b p (ev s y).cells.toList (fun h => putK s h o.dst undefV k) (slowF P call s o k)) (slowF P call s o k) with e | ⟨b, p, h3, e⟩
              · rw [e] at h; exact slow h
              · rw [e] at h
                rcases writeK_cases s.h b p (ev s y).cells.toList (fun h => putK s h o.dst undefV k) (slowF P call s o k) with e2 | ⟨h', hw, e2⟩
                · rw [e2] at h; exact slow h
                · rw [e2] at h
                  simp only [putK_eq] at h
                  refine ⟨_, _, h, fun ρ a w hs next Q hnext => ?_⟩
                  have h4 : (ev s y).cells.toList.all (ok s.h.size) = true := by
                    have := ev_ok hs hy
                    refine List.all_eq_true.2 fun u hu => ?_
                    cases hv : ev s y <;> rw [hv] at hu this <;> simp only [Value.cells, List.mem_cons, List.not_mem_nil, or_false] at hu <;> first
                      | (subst hu; exact this)
                      | (simp only [ok, okA_eq] at this; exact List.all_eq_true.1 this u hu)
                  have hst : storeX P t (ev s x) (ev s y) s.h = some h' := by
                    simp only [storeX, h3, hn, h1, h2, h4, cond_true, hw]
                  obtain ⟨w', hr, hsim, hstep⟩ := store_run (P := P) hs.sim hst
                  have hgo := hnext ρ w' (put_simS hs hsim hstep (ok_undef _) _) hstep
                  unfold Oper.wp
                  simp only [execOp, ho, Sem.run_bind, ev_eq hs hx, ev_eq hs hy, hr, Result.andThen_ok, Sem.run_pure, Oper.upon]
                  rw [ren_undef] at hgo
                  exact hgo
        · subst hkk; exact slow h
  · rename_i f args ts ho
    cases hg : goFn P f with
    | false => rw [hg] at hkk; subst hkk; exact slow h
    | true =>
      cases ha : args.toList.all opnOK with
      | false => rw [hg, ha] at hkk; subst hkk; exact slow h
      | true =>
        rw [hg, ha] at hkk
        simp only [cond_true] at hkk
        subst hkk
        simp only [runF, evL_eq] at h
        unfold callF at h
        split at h
        · rename_i v h1 hcall
          simp only [frcV_eq, frcH_eq, putK_eq] at h
          refine ⟨_, _, h, fun ρ a w hs next Q hnext => ?_⟩
          have hargs : okA s.h.size ⟨args.toList.map (ev s)⟩ = true := by
            simp only [okA, okL_eq, List.all_map]
            exact List.all_eq_true.2 fun x hx => ev_ok hs (List.all_eq_true.1 ha x hx)
          obtain ⟨hv, hcalls⟩ := hc.2 _ _ _ _ _ hcall hargs
          have harr : (⟨args.toList.map (ev s)⟩ : Array Value) = args.map (ev s) := by
            apply Array.ext'
            simp only [Array.toList_map]
          have hcr := call_run hc.1 (ρ := ρ) (tm := ev s) (cev := a.eval) (o := o) (f := f) (args := args.map (ev s)) (by simp [callX, ho, calleeX, ev]) hg
            (fun x hx => by
              rw [ho] at hx
              simp only [Op.operands, Call.operands, Array.mem_append, List.mem_toArray, List.mem_cons, List.not_mem_nil, or_false] at hx
              rcases hx with rfl | hx
              · rfl
              · exact ev_eq hs (List.all_eq_true.1 ha x (by simpa using hx))) w
          unfold Oper.wp
          rw [hcr]
          simp only [Oper.upon]
          rw [← harr]
          refine (hcalls ρ w hs.sim).mono fun e w' he => ?_
          obtain ⟨ρ', rfl, hsim, hst⟩ := he
          exact hnext ρ' w' (put_simS hs hsim hst hv _) hst
        · cases h
  · subst hkk; exact slow h


theorem goF_ok {P : Program} {call : Call} (hc : CallOK P call) {ops : Array Oper} {s s' : St} {o : Oper} {k : St → Option St} (h : goF P call ops (kOf P o.op) o s k = some s') :
    (wantX ops s o = true ∧ ∃ v h', k (s.put h' o.dst v) = some s' ∧ Steps P s o v h') ∨ (wantX ops s o = false ∧ k (s.put s.h o.dst undefV) = some s') := by
  unfold goF at h
  split at h
  · rename_i hg
    exact .inl ⟨by simp [wantX, Region.wanted, hg], runF_ok hc h⟩
  · cases hw : wantX ops s o with
    | true => rw [hw] at h; exact .inl ⟨rfl, runF_ok hc h⟩
    | false =>
      rw [hw] at h
      simp only [cond_false, putM_eq] at h
      exact .inr ⟨rfl, h⟩

theorem put_h (s : St) (h : H) (d : Option Nat) (v : Value) : (s.put h d v).h = h := by
  unfold St.put
  split
  · cases Nat.blt _ _ <;> rfl
  · rfl

theorem opsF_wp {P : Program} {call : Call} (hc : CallOK P call) {ops : Array Oper} {Q : Exit → Act → World → Prop} : ∀ (l : List Oper) (i : Nat) (s s' : St) (ρ : Nat → Loc) (a : Act) (w : World),
    ops.toList.drop i = l → opsF P call ops (ksOf P l) s = some s' → SimS ρ s a w →
    (∀ ρ' a' w', SimS ρ' s' a' w' → Step ρ s.h w ρ' s'.h w' → Q .normal a' w') → wpOps P ops Q (List.range' i l.length) a w := by
  intro l
  induction l with
  | nil =>
    intro i s s' ρ a w hl hx hs hQ
    simp only [ksOf, opsF, Option.some.injEq] at hx; subst hx
    exact hQ ρ a w hs (Step.refl _ _ _)
  | cons o l ih =>
    intro i s s' ρ a w hl hx hs hQ
    have hlt : i < ops.toList.length := by
      rcases Nat.lt_or_ge i ops.toList.length with h | h
      · exact h
      · rw [List.drop_eq_nil_of_le h] at hl; cases hl
    have ho : ops[i]? = some o := by
      rw [List.drop_eq_getElem_cons hlt] at hl
      simp only [List.cons.injEq] at hl
      rw [← hl.1]
      simp [Array.getElem?_eq_getElem (show i < ops.size by simpa using hlt)]
    have hl' : ops.toList.drop (i + 1) = l := by
      rw [List.drop_eq_getElem_cons hlt] at hl
      simp only [List.cons.injEq] at hl
      exact hl.2
    simp only [ksOf, opsF] at hx
    simp only [List.length_cons, List.range'_succ, wpOps]
    rw [ho]
    simp only
    rw [want_eq hs]
    rcases goF_ok hc hx with ⟨hw, v, h', hx, hst⟩ | ⟨hw, hx⟩
    · rw [hw]
      simp only [if_true]
      refine .inl (hst ρ a w hs _ _ fun ρ' w' hs' hstep => ?_)
      exact ih (i + 1) _ _ ρ' _ w' hl' hx hs' (fun ρ2 a2 w2 hs2 hst2 => hQ ρ2 a2 w2 hs2 (hstep.trans (by rw [put_h] at hst2; exact hst2)))
    · rw [hw]
      simp only [Bool.false_eq_true, if_false]
      have hp := put_simS hs hs.sim (Step.refl _ _ _) (ok_undef _) o.dst
      rw [ren_undef] at hp
      exact ih (i + 1) _ _ ρ _ w hl' hx hp (fun ρ2 a2 w2 hs2 hst2 => hQ ρ2 a2 w2 hs2 (by rw [put_h] at hst2; exact hst2))

/-- a region whose order is the text's -/
def regF (P : Program) (dr : Call → Array Oper → St → Option St) (call : Call) : Reg := fun ops d s => cond d (dr call ops s) (opsF P call ops (ksOf P ops.toList) s)

def DrawOK (P : Program) (dr : Call → Array Oper → St → Option St) : Prop := ∀ call, CallOK P call → ∀ (ops : Array Oper) (s s' : St), dr call ops s = some s' →
  ∀ (id : Nat) (ρ : Nat → Loc) (a : Act) (w : World) (Q : Exit → Act → World → Prop), SimS ρ s a w →
    (∀ ρ' a' w', SimS ρ' s' a' w' → Step ρ s.h w ρ' s'.h w' → Q .normal a' w') → (Code.region id ops true).wp P Q a w

theorem regF_ok {P : Program} {dr : Call → Array Oper → St → Option St} (hd : DrawOK P dr) (call : Call) (hc : CallOK P call) : RegOK P (regF P dr call) := by
  intro ops d s s' h id ρ a w Q hs hQ
  cases d with
  | true => exact hd call hc ops s s' h id ρ a w Q hs hQ
  | false =>
    refine wp_region ?_
    have := opsF_wp hc (ops := ops) (Q := Q) ops.toList 0 s s' ρ a w rfl h hs hQ
    rw [← List.range_eq_range'] at this
    simpa using this

end
end Go.AX

namespace Go.AX
noncomputable section
open Go

/-! ### ops and code as functions that are made once -/
structure Arm where
  run : Call → St → (St → Option St) → Option St

section
variable (P : Program) (o : Oper)
def mvA (t : Nat) (call : Call) (s : St) (k : St → Option St) : Option St := someV (s.tmps.get t) (fun v => putM s o.dst v k) (slowF P call s o k)
def cstA (v : Value) (s : St) (k : St → Option St) : Option St := putM s o.dst v k
def cmpA (f : Nat → Nat → Bool) (x y : Operand) (call : Call) (s : St) (k : St → Option St) : Option St :=
  evK s x fun a => evK s y fun b => nat2 a b (fun _ m n => boolK (f m n) fun v => putM s o.dst v k) (slowF P call s o k)
def ariA (f : Nat → Nat → Nat) (x y : Operand) (call : Call) (s : St) (k : St → Option St) : Option St :=
  evK s x fun a => evK s y fun b => nat2 a b (fun kd m n => limK kd (f m n) (fun v => putM s o.dst v k) (slowF P call s o k)) (slowF P call s o k)
def binA (op : BinOp) (x y : Operand) (call : Call) (s : St) (k : St → Option St) : Option St :=
  evK s x fun a => evK s y fun b => someV (natBin op a b) (fun v => frcV v fun v => putM s o.dst v k) (slowF P call s o k)
def pickA (c a b : Operand) (call : Call) (s : St) (k : St → Option St) : Option St :=
  evK s c fun c => pickK c (evK s a fun v => putM s o.dst v k) (evK s b fun v => putM s o.dst v k) (slowF P call s o k)
def faA (off : Nat) (x : Operand) (call : Call) (s : St) (k : St → Option St) : Option St :=
  evK s x fun a => addrK a (fun b p => frcN (p + off) fun p => putM s o.dst (.pointer (some ⟨b, p, none⟩)) k) (slowF P call s o k)
def nilcA (x : Operand) (call : Call) (s : St) (k : St → Option St) : Option St :=
  evK s x fun a => addrK a (fun b p => putM s o.dst (.pointer (some ⟨b, p, none⟩)) k) (slowF P call s o k)
def extA (i : Nat) (x : Operand) (call : Call) (s : St) (k : St → Option St) : Option St :=
  evK s x fun a => tupK a i (fun v => frcV v fun v => putM s o.dst v k) (slowF P call s o k)
def ld1A (x : Operand) (call : Call) (s : St) (k : St → Option St) : Option St :=
  evK s x fun a => addrK a (fun b p => cellsK s.h b (fun cs _ _ _ _ => nthK cs p (fun v => frcV v fun v => putM s o.dst v k) (slowF P call s o k)) (slowF P call s o k)) (slowF P call s o k)
def ldnA (n : Nat) (x : Operand) (call : Call) (s : St) (k : St → Option St) : Option St :=
  evK s x fun a => addrK a (fun b p => readK s.h b p n (fun l => putM s o.dst (.agg ⟨l⟩) k) (slowF P call s o k)) (slowF P call s o k)
def stA (n : Nat) (a v : Operand) (call : Call) (s : St) (k : St → Option St) : Option St :=
  evK s a fun a => evK s v fun v => partsK v fun vs => stF s n vs a o.dst k (slowF P call s o k)
def callA (f : FuncId) (args : List Operand) (call : Call) (s : St) (k : St → Option St) : Option St :=
  evL s args fun l => callF (call f ⟨l⟩ s.h) s o.dst k

def armK (kk : K) : Arm :=
  match kk with
  | .mv t => ⟨mvA P o t⟩
  | .cst v => ⟨fun _ => cstA o v⟩
  | .cmp f x y => ⟨cmpA P o f x y⟩
  | .ari f x y => ⟨ariA P o f x y⟩
  | .bin op x y => ⟨binA P o op x y⟩
  | .pick c a b => ⟨pickA P o c a b⟩
  | .fa off x => ⟨faA P o off x⟩
  | .nilc x => ⟨nilcA P o x⟩
  | .ext i x => ⟨extA P o i x⟩
  | .ld1 x => ⟨ld1A P o x⟩
  | .ldn n x => ⟨ldnA P o n x⟩
  | .st n a v => ⟨stA P o n a v⟩
  | .call f args => ⟨callA o f args⟩
  | .slow => ⟨fun call s k => slowF P call s o k⟩

theorem armK_run (kk : K) (call : Call) (s : St) (k : St → Option St) : (armK P o kk).run call s k = runF P call kk o s k := by
  cases kk <;> rfl
end

def guardA (ops : Array Oper) (o : Oper) (a : Arm) (call : Call) (s : St) (k : St → Option St) : Option St :=
  cond (wantX ops s o) (a.run call s k) (putM s o.dst undefV k)

def armG (P : Program) (ops : Array Oper) (o : Oper) : Arm :=
  match o.guard with
  | none => armK P o (kOf P o.op)
  | some _ => ⟨guardA ops o (armK P o (kOf P o.op))⟩

theorem armG_run (P : Program) (ops : Array Oper) (o : Oper) (call : Call) (s : St) (k : St → Option St) : (armG P ops o).run call s k = goF P call ops (kOf P o.op) o s k := by
  unfold armG goF
  cases o.guard with
  | none => exact armK_run _ _ _ _ _ _
  | some g => simp only [guardA, armK_run]

def armsOf (P : Program) (ops : Array Oper) : List Oper → List Arm
  | [] => []
  | o :: l => armG P ops o :: armsOf P ops l

def opsA (call : Call) : List Arm → St → Option St
  | [], s => some s
  | a :: l, s => a.run call s fun s => opsA call l s

theorem opsA_eq (P : Program) (ops : Array Oper) (call : Call) : ∀ (l : List Oper) (s : St), opsA call (armsOf P ops l) s = opsF P call ops (ksOf P l) s
  | [], s => rfl
  | o :: l, s => by
    simp only [armsOf, opsA, ksOf, opsF, armG_run]
    congr 1
    funext s
    exact opsA_eq P ops call l s

structure CArm where
  run : Call → St → Option (Ex × St)

def dregA (dr : Call → Array Oper → St → Option St) (ops : Array Oper) (call : Call) (s : St) : Option (Ex × St) := regEx (dr call ops s)
def regA (l : List Arm) (call : Call) (s : St) : Option (Ex × St) := regEx (opsA call l s)
def seqA (a b : CArm) (call : Call) (s : St) : Option (Ex × St) := seqEx (fun s => b.run call s) (a.run call s)
def condA (c : Operand) (a b : CArm) (call : Call) (s : St) : Option (Ex × St) := evK s c fun v => condEx (fun s => a.run call s) (fun s => b.run call s) s v
def blockA (id : Nat) (a : CArm) (call : Call) (s : St) : Option (Ex × St) := blockEx id (a.run call s)
def loopA (lf : Nat) (a : CArm) (call : Call) (s : St) : Option (Ex × St) := iterX (fun s => a.run call s) lf s

def codeA (P : Program) (dr : Call → Array Oper → St → Option St) (lf : Nat) : Code → CArm
  | .skip => ⟨fun _ s => some (.normal, s)⟩
  | .label _ => ⟨fun _ s => some (.normal, s)⟩
  | .region _ ops d => cond d ⟨dregA dr ops⟩ ⟨regA (armsOf P ops ops.toList)⟩
  | .seq a b => ⟨seqA (codeA P dr lf a) (codeA P dr lf b)⟩
  | .cond c a b => cond (opnOK c) ⟨condA c (codeA P dr lf a) (codeA P dr lf b)⟩ ⟨fun _ _ => none⟩
  | .block id b => ⟨blockA id (codeA P dr lf b)⟩
  | .loop b => ⟨loopA lf (codeA P dr lf b)⟩
  | .scope b => codeA P dr lf b
  | .exit id => ⟨fun _ s => some (.exit id, s)⟩
  | .ret => ⟨fun _ s => some (.ret, s)⟩
  | _ => ⟨fun _ _ => none⟩

theorem codeA_run (P : Program) (dr : Call → Array Oper → St → Option St) (lf : Nat) (call : Call) : ∀ (c : Code) (s : St), (codeA P dr lf c).run call s = codeX (regF P dr call) lf c s := by
  intro c
  induction c with
  | region id ops d =>
    intro s
    cases d with
    | true => rfl
    | false => simp only [codeA, cond_false, regA, opsA_eq, codeX, regF]
  | seq a b iha ihb => intro s; simp only [codeA, seqA, codeX, iha]; congr 1; funext s; exact ihb s
  | cond c a b iha ihb =>
    intro s
    simp only [codeA, codeX]
    cases opnOK c with
    | false => rfl
    | true =>
      simp only [cond_true, condA, evK_eq]
      congr 1
      · funext s; exact iha s
      · funext s; exact ihb s
  | block id b ih => intro s; simp only [codeA, blockA, codeX, ih]
  | loop b ih =>
    intro s
    simp only [codeA, loopA, codeX]
    congr 1
    funext s; exact ih s
  | scope b ih => intro s; simp only [codeA, codeX, ih]
  | _ => intro s; rfl

def bodyA (P : Program) (dr : Call → Array Oper → St → Option St) (lf : Nat) (call : Call) (fn : Option Func) (args : Array Value) (h : H) : Option (Value × H) :=
  match fn with
  | some fn => match fn.body with
    | some c => endX P fn ((codeA P dr lf c).run call (enterX fn args h))
    | none => none
  | none => none

def callsA (P : Program) (dr : Call → Array Oper → St → Option St) (ext : FuncId → Option (Array Value → H → Option (Value × H))) (lf : Nat) : Nat → Call
  | 0, _, _, _ => none
  | n + 1, f, args, h => match ext f with
    | some g => okX (g args h)
    | none => bodyA P dr lf (callsA P dr ext lf n) P.funcs[f]? args h

theorem callsA_eq (P : Program) (dr : Call → Array Oper → St → Option St) (ext : FuncId → Option (Array Value → H → Option (Value × H))) (lf : Nat) : ∀ n, callsA P dr ext lf n = callsX P (regF P dr) ext lf n := by
  intro n
  induction n with
  | zero => funext f args h; rfl
  | succ n ih =>
    funext f args h
    simp only [callsA, callsX, ih]
    cases ext f with
    | some g => rfl
    | none =>
      simp only [bodyA, bodyX, codeA_run]
      cases P.funcs[f]? with
      | none => rfl
      | some fn => cases fn.body <;> rfl

end
end Go.AX
