import Derived.Test.YtnamakmnlagpgaaGreatDoorAx8
set_option linter.unusedVariables false
set_option linter.unusedSimpArgs false
namespace Go.AX
noncomputable section
open Go

/-! ### one run of a region, with all that it told -/
structure Ent where
  j : Nat
  o : Oper
  c : Nat
  s : St
  v : Value
  h : H
  cs : List Value

def entX (P : Program) (call : Call) (ops : Array Oper) (s : St) (j : Nat) (o : Oper) : Option Ent :=
  cond (wantX ops s o)
    (cond (o.op.operands.all opnOK)
      (match kind P o.op with
       | 0 => match orElse (quickX P (ev s) o) (pureX P (ev s) o) with
         | some v => frcV v fun v => cond (ok s.h.size v) (some ⟨j, o, 0, s, v, s.h, []⟩) none
         | none => none
       | 1 => match loadOp P (ev s) o s.h with
         | some v => frcV v fun v => cond (ok s.h.size v) (some ⟨j, o, 1, s, v, s.h, []⟩) none
         | none => none
       | 2 => match allocX P (ev s) o with
         | some (cs, mk) => frcL cs fun cs => cond (okL s.h.size cs) (frcV (mk s.h.size) fun v => cond (ok (s.h.size + 1) v) (frcH (s.h.newCells cs 0 0) fun h => some ⟨j, o, 2, s, v, h, cs⟩) none) none
         | none => none
       | _ => match stepX P call s o with
         | some (v, h) => frcV v fun v => frcH h fun h => cond (ok h.size v) (cond (Nat.ble s.h.size h.size) (some ⟨j, o, 3, s, v, h, []⟩) none) none
         | none => none) none)
    (some ⟨j, o, 0, s, undefV, s.h, []⟩)

structure EntOK (P : Program) (call : Call) (ops : Array Oper) (e : Ent) : Prop where
  op : ops[e.j]? = some e.o
  okv : ok e.h.size e.v = true
  size : e.s.h.size ≤ e.h.size
  how : (wantX ops e.s e.o = false ∧ e.c = 0 ∧ e.v = undefV ∧ e.h = e.s.h) ∨
    (wantX ops e.s e.o = true ∧ (∀ x, x ∈ e.o.op.operands → opnOK x = true) ∧
      ((e.c = 0 ∧ e.h = e.s.h ∧ (quickX P (ev e.s) e.o = some e.v ∨ pureX P (ev e.s) e.o = some e.v)) ∨
       (e.c = 1 ∧ e.h = e.s.h ∧ ∃ t x, e.o.op = .load t x) ∨
       (e.c = 2 ∧ ∃ mk, allocX P (ev e.s) e.o = some (e.cs, mk) ∧ okL e.s.h.size e.cs = true ∧ e.v = mk e.s.h.size ∧ e.h = e.s.h.newCells e.cs 0 0) ∨
       (e.c = 3 ∧ 3 ≤ kind P e.o.op ∧ stepX P call e.s e.o = some (e.v, e.h))))

theorem entX_ok {P : Program} {call : Call} {ops : Array Oper} {s : St} {j : Nat} {o : Oper} {e : Ent} (ho : ops[j]? = some o) (h : entX P call ops s j o = some e) :
    EntOK P call ops e ∧ e.j = j ∧ e.s = s := by
  unfold entX at h
  simp only [frcV_eq, frcH_eq, frcL_eq] at h
  cases hw : wantX ops s o with
  | false =>
    rw [hw] at h
    simp only [cond_false, Option.some.injEq] at h
    subst h
    exact ⟨⟨ho, ok_undef _, Nat.le_refl _, .inl ⟨hw, rfl, rfl, rfl⟩⟩, rfl, rfl⟩
  | true =>
    rw [hw] at h
    simp only [cond_true] at h
    obtain ⟨hop, h⟩ := cond_some h
    have hop : ∀ x, x ∈ o.op.operands → opnOK x = true := fun x hx => Array.all_eq_true_iff_forall_mem.1 hop x hx
    split at h
    · split at h
      · rename_i v hv
        obtain ⟨h1, h⟩ := cond_some h
        simp only [Option.some.injEq] at h; subst h
        exact ⟨⟨ho, h1, Nat.le_refl _, .inr ⟨hw, hop, .inl ⟨rfl, rfl, orElse_some hv⟩⟩⟩, rfl, rfl⟩
      · cases h
    · split at h
      · rename_i v hv
        obtain ⟨h1, h⟩ := cond_some h
        simp only [Option.some.injEq] at h; subst h
        refine ⟨⟨ho, h1, Nat.le_refl _, .inr ⟨hw, hop, .inr (.inl ⟨rfl, rfl, ?_⟩)⟩⟩, rfl, rfl⟩
        unfold loadOp at hv
        split at hv
        · rename_i t x hx; exact ⟨t, x, hx⟩
        · cases hv
      · cases h
    · split at h
      · rename_i cs mk hv
        obtain ⟨h1, h⟩ := cond_some h
        obtain ⟨h2, h⟩ := cond_some h
        simp only [Option.some.injEq] at h; subst h
        exact ⟨⟨ho, h2, Nat.le_succ _, .inr ⟨hw, hop, .inr (.inr (.inl ⟨rfl, mk, hv, h1, rfl, rfl⟩))⟩⟩, rfl, rfl⟩
      · cases h
    · rename_i hk0 hk1 hk2
      split at h
      · rename_i v h' hv
        obtain ⟨h1, h⟩ := cond_some h
        obtain ⟨h2, h⟩ := cond_some h
        simp only [Option.some.injEq] at h; subst h
        have h3 : 3 ≤ kind P o.op := by
          have a0 : kind P o.op ≠ 0 := fun e => hk0 e
          have a1 : kind P o.op ≠ 1 := fun e => hk1 e
          have a2 : kind P o.op ≠ 2 := fun e => hk2 e
          omega
        exact ⟨⟨ho, h1, nble_true h2, .inr ⟨hw, hop, .inr (.inr (.inr ⟨rfl, h3, hv⟩))⟩⟩, rfl, rfl⟩
      · cases h

def Chain (P : Program) (call : Call) (ops : Array Oper) : St → List Ent → St → Prop
  | s, [], s' => s' = s
  | s, e :: l, s' => e.s = s ∧ EntOK P call ops e ∧ Chain P call ops (s.put e.h e.o.dst e.v) l s'

def traceX (P : Program) (call : Call) (ops : Array Oper) : List Nat → St → (List Ent → List Ent) → (List Ent → St → Option St) → Option St
  | [], s, acc, k => k (acc []) s
  | j :: l, s, acc, k => match ops[j]? with
    | some o => match entX P call ops s j o with
      | some e => putK s e.h o.dst e.v fun s' => traceX P call ops l s' (fun r => acc (e :: r)) k
      | none => none
    | none => none

theorem entX_o {P : Program} {call : Call} {ops : Array Oper} {s : St} {j : Nat} {o : Oper} {e : Ent} (ho : ops[j]? = some o) (h : entX P call ops s j o = some e) : e.o = o := by
  obtain ⟨a, b, _⟩ := entX_ok ho h
  have := a.op
  rw [b, ho] at this
  exact (Option.some.inj this).symm

theorem traceX_ok {P : Program} {call : Call} {ops : Array Oper} {k : List Ent → St → Option St} {r : St} : ∀ (l : List Nat) (s : St) (acc : List Ent → List Ent), traceX P call ops l s acc k = some r →
    ∃ es s', es.map (·.j) = l ∧ Chain P call ops s es s' ∧ k (acc es) s' = some r
  | [], s, acc, h => ⟨[], s, rfl, rfl, h⟩
  | j :: l, s, acc, h => by
    simp only [traceX, putK_eq] at h
    split at h
    · rename_i o ho
      split at h
      · rename_i e he
        obtain ⟨a, b, c⟩ := entX_ok ho he
        have d := entX_o ho he
        obtain ⟨es, s', h1, h2, h3⟩ := traceX_ok l _ _ h
        refine ⟨e :: es, s', by simp [b, h1], ⟨c, a, ?_⟩, h3⟩
        rw [d]; exact h2
      · cases h
    · cases h

/-! ### what is checked behind the run -/
def stagesOf : List Ent → List (Nat × H)
  | [] => []
  | e :: l => match e.c with
    | 3 => (e.j, e.h) :: stagesOf l
    | _ => stagesOf l
def lastH : H → List (Nat × H) → H
  | h, [] => h
  | _, (_, h') :: l => lastH h' l
def noAnc (a : Nat) : List (Nat × H) → Bool
  | [] => true
  | (x, _) :: l => cond (bit a x) false (noAnc a l)
theorem noAnc_true {a : Nat} : ∀ (l : List (Nat × H)), (∀ x, x ∈ l → bit a x.1 = false) → noAnc a l = true
  | [], _ => rfl
  | (x, h) :: l, hx => by
    simp only [noAnc]
    rw [hx (x, h) (by simp)]
    exact noAnc_true l fun y hy => hx y (by simp [hy])
def sameL (P : Program) (e : Ent) (h : H) : Bool := match loadOp P (ev e.s) e.o h with
  | some v => veq v e.v
  | none => false
theorem sameL_ok {P : Program} {e : Ent} {h : H} (hs : sameL P e h = true) : loadOp P (ev e.s) e.o h = some e.v := by
  unfold sameL at hs
  split at hs
  · rename_i v hv; rw [hv, veq_eq _ _ hs]
  · cases hs
def chkL (P : Program) (T : Tr Nat) (e : Ent) : H → List (Nat × H) → Bool
  | h, [] => sameL P e h
  | h, (x, h') :: l => cond (cond (noAnc (ancOf T e.j) ((x, h') :: l)) (sameL P e h) true) (cond (bit (ancOf T x) e.j) true (chkL P T e h' l)) false
theorem chkL_ok {P : Program} {T : Tr Nat} {e : Ent} : ∀ (A B : List (Nat × H)) (h : H), chkL P T e h (A ++ B) = true → (∀ x, x ∈ B → bit (ancOf T e.j) x.1 = false) →
    (∀ x, x ∈ A → bit (ancOf T x.1) e.j = false) → loadOp P (ev e.s) e.o (lastH h A) = some e.v
  | [], [], h, hc, _, _ => sameL_ok (by simpa [chkL, lastH] using hc)
  | [], (x, h') :: B, h, hc, hB, _ => by
    simp only [List.nil_append, chkL, Bool.cond_false_right, Bool.and_eq_true] at hc
    have h1 := hc.1
    rw [noAnc_true _ hB] at h1
    exact sameL_ok h1
  | (x, h') :: A, B, h, hc, hB, hA => by
    simp only [List.cons_append, chkL, Bool.cond_false_right, Bool.and_eq_true] at hc
    have h1 := hc.2
    rw [hA (x, h') (by simp)] at h1
    exact chkL_ok A B h' h1 hB fun y hy => hA y (by simp [hy])

/-- the block is made by one of the operations of a set -/
def madeB (a b : Nat) : List Ent → Bool
  | [] => false
  | e :: l => cond (cond (bit a e.j) (cond (Nat.ble e.s.h.size b) (Nat.blt b e.h.size) false) false) true (madeB a b l)
theorem madeB_ok {a b : Nat} : ∀ (l : List Ent), madeB a b l = true → ∃ e, e ∈ l ∧ bit a e.j = true ∧ e.s.h.size ≤ b ∧ b < e.h.size
  | [], h => by cases h
  | e :: l, h => by
    simp only [madeB, Bool.cond_true_left, Bool.or_eq_true, Bool.cond_false_right, Bool.and_eq_true] at h
    rcases h with ⟨h1, h2, h3⟩ | h
    · exact ⟨e, by simp, h1, nble_true h2, blt_true.1 h3⟩
    · obtain ⟨e', h1, h2⟩ := madeB_ok l h
      exact ⟨e', by simp [h1], h2⟩
def seenB (T : Tr Nat) (n0 : Nat) (es : List Ent) (j b : Nat) : Bool := cond (Nat.blt b n0) true (madeB (Nat.lor (ancOf T j) (one j)) b es)

def chkE (P : Program) (T : Tr Nat) (s0 : St) (es : List Ent) (e : Ent) : Bool :=
  cond (okq (seenB T s0.h.size es e.j) e.v) (cond (okqL (seenB T s0.h.size es e.j) e.cs) (match e.c with
    | 1 => chkL P T e s0.h (stagesOf es)
    | _ => true) false) false
def chkEs (P : Program) (T : Tr Nat) (s0 : St) (es : List Ent) : List Ent → Bool
  | [] => true
  | e :: l => cond (chkE P T s0 es e) (chkEs P T s0 es l) false
theorem chkEs_ok {P : Program} {T : Tr Nat} {s0 : St} {es : List Ent} : ∀ (l : List Ent), chkEs P T s0 es l = true → ∀ e, e ∈ l → chkE P T s0 es e = true
  | [], _, e, he => by cases he
  | e0 :: l, h, e, he => by
    simp only [chkEs, Bool.cond_false_right, Bool.and_eq_true] at h
    rcases List.mem_cons.1 he with rfl | he
    · exact h.1
    · exact chkEs_ok l h.2 e he

def drawX (P : Program) (call : Call) (ops : Array Oper) (s : St) : Option St :=
  cond (P.follows .mixedOrders) (match planX P ops with
    | some (T, l) => traceX P call ops l s (fun r => r) fun es s' => cond (chkEs P T s es es) (some s') none
    | none => none) none

structure Cert (P : Program) (call : Call) (ops : Array Oper) (T : Tr Nat) (s0 s' : St) (es : List Ent) : Prop where
  plan : Plan P ops T (es.map (·.j))
  chain : Chain P call ops s0 es s'
  chk : ∀ e, e ∈ es → chkE P T s0 es e = true

theorem drawX_ok {P : Program} {call : Call} {ops : Array Oper} {s s' : St} (h : drawX P call ops s = some s') :
    P.follows .mixedOrders = true ∧ ∃ T es, Cert P call ops T s s' es := by
  unfold drawX at h
  obtain ⟨hm, h⟩ := cond_some h
  refine ⟨hm, ?_⟩
  split at h
  · rename_i T l hp
    obtain ⟨es, s2, h1, h2, h3⟩ := traceX_ok l s _ h
    obtain ⟨h4, h5⟩ := cond_some h3
    simp only [Option.some.injEq] at h5; subst h5
    exact ⟨T, es, by rw [h1]; exact planX_ok hp, h2, chkEs_ok es h4⟩
  · cases h

/-! ### the states of the run -/
def sg (s' : St) : List Ent → Nat → St
  | [], _ => s'
  | e :: _, 0 => e.s
  | _ :: l, i + 1 => sg s' l i

theorem sg_at {s' : St} : ∀ (es : List Ent) (i : Nat) (e : Ent), es[i]? = some e → sg s' es i = e.s
  | [], i, e, h => by simp at h
  | x :: l, 0, e, h => by simp at h; subst h; rfl
  | x :: l, i + 1, e, h => by simp only [sg]; exact sg_at l i e (by simpa using h)
theorem sg_end {s' : St} : ∀ (es : List Ent), sg s' es es.length = s'
  | [] => rfl
  | x :: l => by simp only [List.length_cons, sg]; exact sg_end l
theorem chain_ent {P : Program} {call : Call} {ops : Array Oper} : ∀ (es : List Ent) (s s' : St), Chain P call ops s es s' → ∀ (i : Nat) (e : Ent), es[i]? = some e →
    EntOK P call ops e ∧ sg s' es (i + 1) = e.s.put e.h e.o.dst e.v
  | [], s, s', _, i, e, h => by simp at h
  | x :: l, s, s', hc, 0, e, h => by
    simp at h; subst h
    obtain ⟨h1, h2, h3⟩ := hc
    refine ⟨h2, ?_⟩
    simp only [sg]
    cases l with
    | nil => simp only [Chain] at h3; simp only [sg, h1]; exact h3
    | cons y l => simp only [sg, h1]; exact h3.1
  | x :: l, s, s', hc, i + 1, e, h => by
    obtain ⟨h1, h2, h3⟩ := hc
    simp only [sg]
    exact chain_ent l _ s' h3 i e (by simpa using h)
theorem chain_start {P : Program} {call : Call} {ops : Array Oper} {es : List Ent} {s s' : St} (h : Chain P call ops s es s') : sg s' es 0 = s := by
  cases es with
  | nil => simp only [Chain] at h; simp only [sg]; exact h
  | cons x l => simp only [sg]; exact h.1

theorem put_n (s : St) (h : H) (d : Option Nat) (v : Value) : (s.put h d v).n = s.n := by
  unfold St.put
  split
  · cases Nat.blt _ _ <;> rfl
  · rfl
theorem tmpv_put (s : St) (h : H) (d : Option Nat) (v : Value) (t : Nat) (ht : t < s.n) : tmpv (s.put h d v) t = if d = some t then v else tmpv s t := by
  unfold St.put
  cases d with
  | none => simp only [reduceCtorEq, if_false]; rfl
  | some d =>
    simp only [Option.some.injEq]
    by_cases e : d = t
    · subst e
      rw [blt_true.2 ht, if_pos rfl]
      simp only [cond_true, tmpv, Tr.get_set, if_pos]
    · rw [if_neg e]
      cases Nat.blt d s.n
      · rfl
      · simp only [cond_true, tmpv, Tr.get_set, if_neg (Ne.symm e)]
theorem get_put {s : St} {h : H} {d : Option Nat} {v u : Value} {t : Nat} (hg : (s.put h d v).tmps.get t = some u) : (t < s.n ∧ u = v) ∨ s.tmps.get t = some u := by
  unfold St.put at hg
  cases d with
  | none => exact .inr hg
  | some d =>
    cases hb : Nat.blt d s.n with
    | false => simp only [hb, cond_false] at hg; exact .inr hg
    | true =>
      simp only [hb, cond_true, Tr.get_set] at hg
      split at hg
      · rename_i e; subst e
        exact .inl ⟨blt_true.1 hb, (Option.some.inj hg).symm⟩
      · exact .inr hg

section
variable {P : Program} {call : Call} {ops : Array Oper} {T : Tr Nat} {s0 s' : St} {es : List Ent}

theorem Cert.ent (C : Cert P call ops T s0 s' es) {i : Nat} {e : Ent} (h : es[i]? = some e) : EntOK P call ops e := (chain_ent es s0 s' C.chain i e h).1
theorem Cert.next (C : Cert P call ops T s0 s' es) {i : Nat} {e : Ent} (h : es[i]? = some e) : sg s' es (i + 1) = e.s.put e.h e.o.dst e.v := (chain_ent es s0 s' C.chain i e h).2
theorem Cert.nextH (C : Cert P call ops T s0 s' es) {i : Nat} {e : Ent} (h : es[i]? = some e) : (sg s' es (i + 1)).h = e.h := by rw [C.next h, put_h]
theorem Cert.zero (C : Cert P call ops T s0 s' es) : sg s' es 0 = s0 := chain_start C.chain

theorem Cert.mono1 (C : Cert P call ops T s0 s' es) {i : Nat} (h : i < es.length) : (sg s' es i).h.size ≤ (sg s' es (i + 1)).h.size := by
  have he : es[i]? = some es[i] := List.getElem?_eq_getElem h
  rw [C.nextH he, sg_at es i _ he]
  exact (C.ent he).size
theorem Cert.mono (C : Cert P call ops T s0 s' es) {i k : Nat} (h : i ≤ k) (hk : k ≤ es.length) : (sg s' es i).h.size ≤ (sg s' es k).h.size := by
  induction k with
  | zero => have : i = 0 := by omega
            subst this; exact Nat.le_refl _
  | succ k ih =>
    by_cases e : i = k + 1
    · subst e; exact Nat.le_refl _
    · exact Nat.le_trans (ih (by omega) (by omega)) (C.mono1 (by omega))
theorem lt_of_get {α : Type} {l : List α} {i : Nat} {x : α} (h : l[i]? = some x) : i < l.length := (List.getElem?_eq_some_iff.1 h).1
theorem Cert.apart (C : Cert P call ops T s0 s' es) {i k : Nat} {e e' : Ent} (h : es[i]? = some e) (h' : es[k]? = some e') (hlt : i < k) : e.h.size ≤ e'.s.h.size := by
  rw [← C.nextH h, ← sg_at (s' := s') es k e' h']
  exact C.mono hlt (Nat.le_of_lt (lt_of_get h'))
theorem Cert.low (C : Cert P call ops T s0 s' es) {i : Nat} {e : Ent} (h : es[i]? = some e) : s0.h.size ≤ e.s.h.size := by
  rw [← sg_at (s' := s') es i e h, ← C.zero]
  exact C.mono (Nat.zero_le _) (Nat.le_of_lt (lt_of_get h))
theorem map_at {i : Nat} {e : Ent} (h : es[i]? = some e) : (es.map (·.j))[i]? = some e.j := by simp [h]
theorem Cert.uniq (C : Cert P call ops T s0 s' es) {i k : Nat} {e e' : Ent} (h : es[i]? = some e) (h' : es[k]? = some e') (hj : e.j = e'.j) : i = k :=
  C.plan.ord.nodup i k e.j (map_at h) (by rw [hj]; exact map_at h')
theorem Cert.uniq' (C : Cert P call ops T s0 s' es) {i k : Nat} {e e' : Ent} (h : es[i]? = some e) (h' : es[k]? = some e') (hj : e.j = e'.j) : e = e' := by
  have := C.uniq h h' hj
  subst this
  rw [h] at h'
  exact Option.some.inj h'
theorem Cert.one (C : Cert P call ops T s0 s' es) {i k : Nat} {e e' : Ent} (h : es[i]? = some e) (h' : es[k]? = some e') {t : Nat} (ht : e.o.dst = some t) (ht' : e'.o.dst = some t) : i = k :=
  C.uniq h h' (C.plan.one e.j e'.j e.o e'.o t (C.ent h).op (C.ent h').op ht ht')
theorem at_of_map {i j : Nat} (h : (es.map (·.j))[i]? = some j) : ∃ e, es[i]? = some e ∧ e.j = j := by
  rw [List.getElem?_map] at h
  cases he : es[i]? with
  | none => rw [he] at h; cases h
  | some e => rw [he] at h; exact ⟨e, rfl, Option.some.inj h⟩
theorem bit0 (i : Nat) : bit 0 i = false := by simp [bit_eq]
theorem Cert.has (C : Cert P call ops T s0 s' es) {j : Nat} (h : j < ops.size) : ∃ (i : Nat) (e : Ent), es[i]? = some e ∧ e.j = j := by
  rcases C.plan.ord.all j h with e | ⟨i, hi⟩
  · rw [bit0] at e; cases e
  · obtain ⟨e, h1, h2⟩ := at_of_map hi
    exact ⟨i, e, h1, h2⟩
theorem Cert.lin (C : Cert P call ops T s0 s' es) {i : Nat} {e : Ent} (h : es[i]? = some e) {x : Nat} (hx : bit (ancOf T e.j) x = true) : ∃ (k : Nat) (e' : Ent), k < i ∧ es[k]? = some e' ∧ e'.j = x := by
  rcases C.plan.ord.lin i e.j (map_at h) x hx with e | ⟨k, hk, hk'⟩
  · rw [bit0] at e; cases e
  · obtain ⟨e', h1, h2⟩ := at_of_map hk'
    exact ⟨k, e', hk, h1, h2⟩
theorem Cert.heavy (C : Cert P call ops T s0 s' es) {i k : Nat} {e e' : Ent} (h : es[i]? = some e) (hk : 3 ≤ kind P e.o.op) (h' : es[k]? = some e') (hlt : k < i) : bit (ancOf T e.j) e'.j = true :=
  C.plan.ord.heavy i e.j e.o (map_at h) (C.ent h).op hk k e'.j hlt (map_at h')

theorem Cert.n (C : Cert P call ops T s0 s' es) : ∀ k, k ≤ es.length → (sg s' es k).n = s0.n
  | 0, _ => by rw [C.zero]
  | k + 1, h => by
    have he : es[k]? = some es[k] := List.getElem?_eq_getElem h
    rw [C.next he, put_n, ← sg_at (s' := s') es k _ he]
    exact C.n k (by omega)
theorem Cert.tS (C : Cert P call ops T s0 s' es) {t : Nat} (ht : t < s0.n) : ∀ k, k ≤ es.length → (∀ (i : Nat) e, i < k → es[i]? = some e → e.o.dst ≠ some t) → tmpv (sg s' es k) t = tmpv s0 t
  | 0, _, _ => by rw [C.zero]
  | k + 1, h, hx => by
    have he : es[k]? = some es[k] := List.getElem?_eq_getElem h
    have hn := C.n k (by omega)
    rw [sg_at (s' := s') es k _ he] at hn
    rw [C.next he, tmpv_put _ _ _ _ _ (by rw [hn]; exact ht), if_neg (hx k _ (by omega) he), ← sg_at (s' := s') es k _ he]
    exact C.tS ht k (by omega) fun i e hi => hx i e (by omega)
theorem Cert.tW (C : Cert P call ops T s0 s' es) {t : Nat} (ht : t < s0.n) {i : Nat} {e : Ent} (h : es[i]? = some e) (hd : e.o.dst = some t) : ∀ k, i < k → k ≤ es.length → tmpv (sg s' es k) t = e.v
  | 0, h0, _ => absurd h0 (Nat.not_lt_zero _)
  | k + 1, h0, hk => by
    have he : es[k]? = some es[k] := List.getElem?_eq_getElem hk
    have hn := C.n k (by omega)
    rw [sg_at (s' := s') es k _ he] at hn
    rw [C.next he, tmpv_put _ _ _ _ _ (by rw [hn]; exact ht)]
    by_cases e' : i = k
    · subst e'
      rw [he] at h
      have := Option.some.inj h
      rw [this, if_pos hd]
    · rw [if_neg fun e2 => e' (C.one h he hd e2), ← sg_at (s' := s') es k _ he]
      exact C.tW ht h hd k (by omega) (by omega)
theorem Cert.okt (C : Cert P call ops T s0 s' es) (h0 : ∀ t v, s0.tmps.get t = some v → t < s0.n ∧ ok s0.h.size v = true) : ∀ k, k ≤ es.length → ∀ t v, (sg s' es k).tmps.get t = some v → t < s0.n ∧ ok (sg s' es k).h.size v = true
  | 0, _ => by rw [C.zero]; exact h0
  | k + 1, hk => fun t v hg => by
    have he : es[k]? = some es[k] := List.getElem?_eq_getElem hk
    have hn := C.n k (by omega)
    rw [sg_at (s' := s') es k _ he] at hn
    have hh := C.nextH he
    rw [hh]
    rw [C.next he] at hg
    rcases get_put hg with ⟨h1, rfl⟩ | h1
    · exact ⟨by omega, (C.ent he).okv⟩
    · rw [← sg_at (s' := s') es k _ he] at h1
      obtain ⟨a, b⟩ := C.okt h0 k (by omega) t v h1
      refine ⟨a, ok_mono ?_ _ b⟩
      rw [← hh]
      exact C.mono1 hk
end

end
end Go.AX
