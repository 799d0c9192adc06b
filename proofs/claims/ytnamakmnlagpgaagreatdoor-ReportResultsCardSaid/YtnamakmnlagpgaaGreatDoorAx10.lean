import Derived.Test.YtnamakmnlagpgaaGreatDoorAx9
set_option linter.unusedVariables false
set_option linter.unusedSimpArgs false
namespace Go.AX
noncomputable section
open Go

section
variable {P : Program} {call : Call} {ops : Array Oper} {T : Tr Nat} {s0 s' : St} {es : List Ent}

/-- the blocks that are named when a set is listed -/
def Vis (es : List Ent) (n0 : Nat) (L : Nat → Prop) (b : Nat) : Prop := b < n0 ∨ ∃ (i : Nat) (e : Ent), es[i]? = some e ∧ L e.j ∧ e.s.h.size ≤ b ∧ b < e.h.size

open Classical in
def visB (es : List Ent) (n0 : Nat) (L : Nat → Prop) (b : Nat) : Bool := decide (Vis es n0 L b)

mutual
theorem okq_mono {q q' : Nat → Bool} (hA : ∀ b, q b = true → q' b = true) : ∀ v : Value, okq q v = true → okq q' v = true
  | .pointer (some a), h => by simp only [okq] at *; exact hA _ h
  | .slice (some a) _ _, h => by simp only [okq] at *; exact hA _ h
  | .map (some _), h => by simp only [okq] at *; exact hA _ h
  | .chan (some _), h => by simp [okq] at h
  | .func fn x y, h => by
    simp only [okq, Bool.cond_false_right, Bool.and_eq_true] at *
    exact ⟨okqA_mono hA x h.1, okqA_mono hA y h.2⟩
  | .iface t v, h => by simp only [okq] at *; exact okq_mono hA v h
  | .agg a, h => by simp only [okq] at *; exact okqA_mono hA a h
  | .tuple a, h => by simp only [okq] at *; exact okqA_mono hA a h
  | .bool _, _ => by simp only [okq]
  | .int _ _, _ => by simp only [okq]
  | .float _ _, _ => by simp only [okq]
  | .complex _ _ _, _ => by simp only [okq]
  | .string _, _ => by simp only [okq]
  | .pointer none, _ => by simp only [okq]
  | .slice none _ _, _ => by simp only [okq]
  | .map none, _ => by simp only [okq]
  | .chan none, _ => by simp only [okq]
  | .nilFunc, _ => by simp only [okq]
  | .nilIface, _ => by simp only [okq]
theorem okqA_mono {q q' : Nat → Bool} (hA : ∀ b, q b = true → q' b = true) : ∀ a : Array Value, okqA q a = true → okqA q' a = true
  | ⟨l⟩, h => by simp only [okqA] at *; exact okqL_mono hA l h
theorem okqL_mono {q q' : Nat → Bool} (hA : ∀ b, q b = true → q' b = true) : ∀ l : List Value, okqL q l = true → okqL q' l = true
  | [], _ => by simp only [okqL]
  | v :: l, h => by
    simp only [okqL, Bool.cond_false_right, Bool.and_eq_true] at *
    exact ⟨okq_mono hA v h.1, okqL_mono hA l h.2⟩
end

theorem at_of_mem {α : Type} {l : List α} {x : α} (h : x ∈ l) : ∃ i : Nat, l[i]? = some x := List.mem_iff_getElem?.1 h

theorem Cert.seen (C : Cert P call ops T s0 s' es) {i : Nat} {e : Ent} (h : es[i]? = some e) {L : Nat → Prop} (hc : Closed ops L) (hL : L e.j) {b : Nat} (hs : seenB T s0.h.size es e.j b = true) : Vis es s0.h.size L b := by
  unfold seenB at hs
  simp only [Bool.cond_true_left, Bool.or_eq_true] at hs
  rcases hs with hs | hs
  · exact .inl (blt_true.1 hs)
  · obtain ⟨e', h1, h2, h3, h4⟩ := madeB_ok es hs
    obtain ⟨k, hk⟩ := at_of_mem h1
    refine .inr ⟨k, e', hk, ?_, h3, h4⟩
    rw [bit_lor, Bool.or_eq_true, bit_one] at h2
    rcases h2 with h2 | h2
    · exact C.plan.sound L hc e.j (fun o ho e2 he2 hb => hc e.j o ho hL e2 he2 hb) _ h2
    · rw [h2]; exact hL

theorem Cert.chk' (C : Cert P call ops T s0 s' es) {i : Nat} {e : Ent} (h : es[i]? = some e) :
    okq (seenB T s0.h.size es e.j) e.v = true ∧ okqL (seenB T s0.h.size es e.j) e.cs = true ∧ (e.c = 1 → chkL P T e s0.h (stagesOf es) = true) := by
  have hc := C.chk e (List.mem_of_getElem? h)
  unfold chkE at hc
  simp only [Bool.cond_false_right, Bool.and_eq_true] at hc
  obtain ⟨h1, h2, h3⟩ := hc
  refine ⟨h1, h2, fun he => ?_⟩
  rw [he] at h3
  exact h3

theorem Cert.renV (C : Cert P call ops T s0 s' es) {i : Nat} {e : Ent} (h : es[i]? = some e) {L : Nat → Prop} (hc : Closed ops L) (hL : L e.j) {ρ ρ' : Nat → Loc} (hA : ∀ b, Vis es s0.h.size L b → ρ' b = ρ b) :
    ren ρ' e.v = ren ρ e.v ∧ e.cs.map (ren ρ') = e.cs.map (ren ρ) := by
  obtain ⟨h1, h2, _⟩ := C.chk' h
  have hB : ∀ b, seenB T s0.h.size es e.j b = true → ρ' b = ρ b := fun b hb => hA b (C.seen h hc hL hb)
  refine ⟨ren_q hB e.v h1, ?_⟩
  rw [← renL_eq, ← renL_eq]
  exact renL_q hB e.cs h2

/-! ### the temporaries -/
structure TmOK (ops : Array Oper) (es : List Ent) (s0 : St) (L : Nat → Prop) (ρ : Nat → Loc) (a : Act) : Prop where
  cl : Closed ops L
  defers : a.defers = []
  size : a.tmps.size = s0.n
  tw : ∀ t, t < s0.n → ∀ (i : Nat) e, es[i]? = some e → e.o.dst = some t → L e.j → a.tmps[t]? = some (ren ρ e.v)
  ts : ∀ t, t < s0.n → (∀ (i : Nat) e, es[i]? = some e → e.o.dst = some t → ¬ L e.j) → a.tmps[t]? = some (ren ρ (tmpv s0 t))

theorem TmOK.ren (C : Cert P call ops T s0 s' es) (h0 : ∀ t v, s0.tmps.get t = some v → t < s0.n ∧ ok s0.h.size v = true) {L : Nat → Prop} {ρ ρ' : Nat → Loc} {a : Act} (I : TmOK ops es s0 L ρ a)
    (hA : ∀ b, Vis es s0.h.size L b → ρ' b = ρ b) : TmOK ops es s0 L ρ' a := {
  cl := I.cl
  defers := I.defers
  size := I.size
  tw := fun t ht i e he hd hL => by rw [(C.renV he I.cl hL hA).1]; exact I.tw t ht i e he hd hL
  ts := fun t ht hx => by
    rw [ren_agree (n := s0.h.size) (ρ := ρ) (fun b hb => hA b (.inl hb)) _ (tmpv_ok h0 t)]
    exact I.ts t ht hx }

def Add (L : Nat → Prop) (j : Nat) (i : Nat) : Prop := L i ∨ i = j

theorem closed_add {L : Nat → Prop} {j : Nat} (h : Closed ops L) (hu : Under ops L j) : Closed ops (Add L j) := fun i o ho hL e he hb => by
  rcases hL with hL | rfl
  · exact .inl (h i o ho hL e he hb)
  · exact .inl (hu o ho e he hb)

theorem TmOK.put (C : Cert P call ops T s0 s' es) {L : Nat → Prop} {ρ : Nat → Loc} {a : Act} (I : TmOK ops es s0 L ρ a) {i : Nat} {e : Ent} (he : es[i]? = some e) (hu : Under ops L e.j) :
    TmOK ops es s0 (Add L e.j) ρ (a.put e.o.dst (Go.AX.ren ρ e.v)) := by
  have hd : (a.put e.o.dst (Go.AX.ren ρ e.v)).defers = a.defers := by cases e.o.dst <;> rfl
  have hs : (a.put e.o.dst (Go.AX.ren ρ e.v)).tmps.size = a.tmps.size := by cases e.o.dst <;> simp [Act.put]
  have hg : ∀ t, (a.put e.o.dst (Go.AX.ren ρ e.v)).tmps[t]? = if e.o.dst = some t ∧ t < a.tmps.size then some (Go.AX.ren ρ e.v) else a.tmps[t]? := fun t => by
    cases hdst : e.o.dst with
    | none => simp [Act.put]
    | some d =>
      simp only [Act.put, Array.getElem?_setIfInBounds, Option.some.injEq]
      by_cases h1 : d = t
      · subst h1
        rw [if_pos rfl]
        by_cases h2 : d < a.tmps.size
        · rw [if_pos h2, if_pos ⟨rfl, h2⟩]
        · rw [if_neg h2, if_neg fun h => h2 h.2, Array.getElem?_eq_none (Nat.le_of_not_lt h2)]
      · rw [if_neg h1, if_neg fun h => h1 h.1]
  refine ⟨closed_add I.cl hu, by rw [hd]; exact I.defers, by rw [hs]; exact I.size, ?_, ?_⟩
  · intro t ht k e' he' hdt hL
    rw [hg]
    by_cases hk : k = i
    · subst hk
      rw [he] at he'
      have := Option.some.inj he'
      subst this
      rw [if_pos ⟨hdt, by rw [I.size]; exact ht⟩]
    · rw [if_neg fun h => hk (C.one he' he hdt h.1)]
      refine I.tw t ht k e' he' hdt ?_
      rcases hL with hL | hL
      · exact hL
      · exact absurd (C.uniq he' he hL) hk
  · intro t ht hx
    rw [hg]
    rw [if_neg fun h => hx i e he h.1 (.inr rfl)]
    exact I.ts t ht fun k e' he' hdt hL => hx k e' he' hdt (.inl hL)

/-- what an operation that is ready looks at -/
theorem TmOK.look (C : Cert P call ops T s0 s' es) (h0 : ∀ t v, s0.tmps.get t = some v → t < s0.n ∧ ok s0.h.size v = true) {L : Nat → Prop} {ρ : Nat → Loc} {a : Act} (I : TmOK ops es s0 L ρ a)
    {i : Nat} {e : Ent} (he : es[i]? = some e) (hn : ¬ L e.j) (hu : Under ops L e.j) {t : Nat} (ht : t ∈ looks ops e.o) :
    (t < s0.n → a.tmps[t]? = some (Go.AX.ren ρ (tmpv e.s t))) ∧ (¬ t < s0.n → a.tmps[t]? = none ∧ tmpv e.s t = undefV) := by
  have hi := lt_of_get he
  have hes : sg s' es i = e.s := sg_at es i e he
  constructor
  · intro htn
    by_cases hw : ∃ (k : Nat) (e' : Ent), es[k]? = some e' ∧ e'.o.dst = some t
    · obtain ⟨k, e', hk, hd⟩ := hw
      have start : ¬ L e'.j → ¬ k < i → a.tmps[t]? = some (Go.AX.ren ρ (tmpv e.s t)) := fun hL hlt => by
        rw [I.ts t htn fun k2 e2 h2 hd2 hL2 => by
          have := C.one h2 hk hd2 hd
          subst this
          rw [hk] at h2
          have := Option.some.inj h2
          subst this
          exact hL hL2]
        rw [← hes, C.tS htn i (Nat.le_of_lt hi) fun k2 e2 hlt2 h2 hd2 => by
          have := C.one h2 hk hd2 hd
          omega]
      rcases C.plan.read e.j e.o (C.ent he).op t ht e'.j e'.o (C.ent hk).op hd with h1 | h1 | h1
      · have := C.uniq hk he h1
        subst this
        rw [he] at hk
        have := Option.some.inj hk
        subst this
        exact start hn (Nat.lt_irrefl _)
      · have hL : L e'.j := C.plan.sound L I.cl e.j hu _ h1
        obtain ⟨k2, e2, hlt, h2, h3⟩ := C.lin he h1
        have := C.uniq h2 hk h3
        subst this
        rw [I.tw t htn k2 e' hk hd hL, ← hes, C.tW htn hk hd i hlt (Nat.le_of_lt hi)]
      · obtain ⟨k2, e2, hlt, h2, h3⟩ := C.lin hk h1
        have := C.uniq h2 he h3
        subst this
        refine start (fun hL => hn ?_) (by omega)
        exact C.plan.sound L I.cl e'.j (fun o ho e3 he3 hb => I.cl e'.j o ho hL e3 he3 hb) _ h1
    · have hw : ∀ (k : Nat) (e' : Ent), es[k]? = some e' → e'.o.dst ≠ some t := fun k e' hk hd => hw ⟨k, e', hk, hd⟩
      rw [I.ts t htn fun k e' hk hd => absurd hd (hw k e' hk), ← hes, C.tS htn i (Nat.le_of_lt hi) fun k e' _ hk => hw k e' hk]
  · intro htn
    refine ⟨Array.getElem?_eq_none (by rw [I.size]; omega), ?_⟩
    unfold tmpv
    cases hg : e.s.tmps.get t with
    | none => rfl
    | some v =>
      rw [← hes] at hg
      exact absurd (C.okt h0 i (Nat.le_of_lt hi) t v hg).1 htn

theorem looks_op {o : Oper} {t : Nat} (h : .tmp t ∈ o.op.operands) : t ∈ looks ops o := by
  have h1 : t ∈ tmpsOf o.op.operands.toList := (tmpsOf_mem _ _).2 (by simpa using h)
  unfold looks
  split
  · exact h1
  · split
    · split
      · exact List.mem_cons_of_mem _ h1
      · exact h1
    · exact h1

theorem TmOK.hev (C : Cert P call ops T s0 s' es) (h0 : ∀ t v, s0.tmps.get t = some v → t < s0.n ∧ ok s0.h.size v = true) {L : Nat → Prop} {ρ : Nat → Loc} {a : Act} (I : TmOK ops es s0 L ρ a)
    (hglob : ∀ g, g < 1000 → ρ g = ⟨g, 0, 0⟩) {i : Nat} {e : Ent} (he : es[i]? = some e) (hn : ¬ L e.j) (hu : Under ops L e.j) {x : Operand} (hx : x ∈ e.o.op.operands) (hok : opnOK x = true) :
    a.eval x = Go.AX.ren ρ (ev e.s x) := by
  cases x with
  | tmp t =>
    obtain ⟨h1, h2⟩ := I.look C h0 he hn hu (looks_op (ops := ops) hx)
    simp only [Act.eval, ev, Array.getD_eq_getD_getElem?]
    by_cases ht : t < s0.n
    · rw [h1 ht]; rfl
    · rw [(h2 ht).1, (h2 ht).2, ren_undef]; rfl
  | const v => simp only [Act.eval, ev]; exact (ren_free ρ v hok).symm
  | global g =>
    have hg : g < 1000 := blt_true.1 hok
    simp only [Act.eval, ev, Go.AX.ren, renA, hglob g hg]
  | func f => simp [Act.eval, ev, Go.AX.ren, renArr, renL]

theorem TmOK.want (C : Cert P call ops T s0 s' es) (h0 : ∀ t v, s0.tmps.get t = some v → t < s0.n ∧ ok s0.h.size v = true) {L : Nat → Prop} {ρ : Nat → Loc} {a : Act} (I : TmOK ops es s0 L ρ a)
    {i : Nat} {e : Ent} (he : es[i]? = some e) (hn : ¬ L e.j) (hu : Under ops L e.j) : Region.wanted e.o (yielded ops a.tmps) = wantX ops e.s e.o := by
  unfold wantX Region.wanted
  cases hg : e.o.guard with
  | none => rfl
  | some gb =>
    obtain ⟨g, b⟩ := gb
    simp only
    suffices hy : yielded ops a.tmps g = yieldX ops e.s g by rw [hy]
    unfold yielded yieldX
    cases hd : (ops[g]?).bind (·.dst) with
    | none => simp
    | some d =>
      simp only [Option.bind_some]
      have hl : d ∈ looks ops e.o := by
        unfold looks
        rw [hg]
        simp only
        cases hog : ops[g]? with
        | none => rw [hog] at hd; cases hd
        | some og =>
          rw [hog] at hd
          simp only [Option.bind_some] at hd
          simp only [hd]
          exact List.mem_cons_self
      obtain ⟨h1, h2⟩ := I.look C h0 he hn hu hl
      by_cases ht : d < s0.n
      · rw [h1 ht]
        unfold tmpv
        cases hgt : e.s.tmps.get d with
        | none => simp [ren_undef, undefV, Go.AX.ren, renArr, renL]
        | some v =>
          simp only
          cases v with
          | pointer a => cases a <;> simp [Go.AX.ren]
          | slice a l c => cases a <;> simp [Go.AX.ren]
          | map r => cases r <;> simp [Go.AX.ren]
          | _ => simp [Go.AX.ren]
      · rw [(h2 ht).1]
        have h3 := (h2 ht).2
        unfold tmpv at h3
        cases hgt : e.s.tmps.get d with
        | none => rfl
        | some v =>
          rw [hgt] at h3
          simp only at h3
          subst h3
          rfl

/-! ### the heap -/
structure HpC (es : List Ent) (s0 s' : St) (k : Nat) (L : Nat → Prop) (ρ0 : Nat → Loc) (w0 : World) (ρ : Nat → Loc) (w : World) : Prop where
  sim : Sim ρ (sg s' es k).h w
  pend : ∀ (i : Nat) e, es[i]? = some e → k ≤ i → e.c = 2 → L e.j → ∃ B el, ρ e.s.h.size = ⟨B, 0, 0⟩ ∧ w0.heap.size ≤ B ∧ B < w.heap.size ∧
    w.heap[B]? = some (.cells (e.cs.map (ren ρ)).toArray el (0, 0)) ∧ Off 0 ρ (sg s' es k).h B
  pdis : ∀ (i i' : Nat) e e', es[i]? = some e → es[i']? = some e' → k ≤ i → k ≤ i' → e.c = 2 → e'.c = 2 → L e.j → L e'.j → i ≠ i' → (ρ e.s.h.size).B ≠ (ρ e'.s.h.size).B
  step : Step ρ0 s0.h w0 ρ (sg s' es k).h w

structure HpOK (es : List Ent) (s0 s' : St) (p : Nat) (L : Nat → Prop) (ρ0 : Nat → Loc) (w0 : World) (ρ : Nat → Loc) (w : World) : Prop where
  ple : p ≤ es.length
  done : ∀ (i : Nat) e, es[i]? = some e → i < p → 2 ≤ e.c → L e.j
  hv : ∀ (i : Nat) e, es[i]? = some e → p ≤ i → e.c = 3 → ¬ L e.j
  cur : (sg s' es p).h = lastH s0.h (stagesOf (es.take p))
  c : HpC es s0 s' p L ρ0 w0 ρ w

theorem Ent.same {e : Ent} (h : EntOK P call ops e) (hc : e.c ≤ 1) : e.h = e.s.h := by
  rcases h.how with ⟨_, _, _, h4⟩ | ⟨_, _, h5 | h5 | h5 | h5⟩
  · exact h4
  · exact h5.2.1
  · exact h5.2.1
  · omega
  · omega

theorem Ent.row {e : Ent} (h : EntOK P call ops e) (hc : e.c = 2) : wantX ops e.s e.o = true ∧ (∀ x, x ∈ e.o.op.operands → opnOK x = true) ∧
    ∃ mk, allocX P (ev e.s) e.o = some (e.cs, mk) ∧ okL e.s.h.size e.cs = true ∧ e.v = mk e.s.h.size ∧ e.h = e.s.h.newCells e.cs 0 0 := by
  rcases h.how with ⟨_, h2, _, _⟩ | ⟨hw, hop, h5 | h5 | h5 | h5⟩
  · omega
  · omega
  · omega
  · exact ⟨hw, hop, h5.2⟩
  · omega

theorem HpC.pass (C : Cert P call ops T s0 s' es) {k : Nat} {L : Nat → Prop} {ρ0 ρ : Nat → Loc} {w0 w : World} (I : HpC es s0 s' k L ρ0 w0 ρ w) {e : Ent} (he : es[k]? = some e) (h3 : e.c ≤ 2) (hL : e.c = 2 → L e.j) :
    HpC es s0 s' (k + 1) L ρ0 w0 ρ w := by
  have hk : sg s' es k = e.s := sg_at es k e he
  have hk1 : (sg s' es (k + 1)).h = e.h := C.nextH he
  by_cases h2 : e.c = 2
  · obtain ⟨_, _, mk, h4, h5, h6, h7⟩ := Ent.row (C.ent he) h2
    obtain ⟨B, el, hB1, hB0, hB2, hB3, hB4⟩ := I.pend k e he (Nat.le_refl _) h2 (hL h2)
    have hsim : Sim ρ e.h w := by
      rw [h7]
      refine absorb (by rw [← hk]; exact I.sim) hB1 (fun b kk hb => ?_) hB3 fun v hv => ?_
      · rw [← hk] at hb
        exact hB4 b kk (Nat.zero_le _) hb
      · rw [okL_eq] at h5
        exact List.all_eq_true.1 h5 v hv
    have hget : ∀ b kk, e.h.blks.get b = some kk → b = e.s.h.size ∨ e.s.h.blks.get b = some kk := fun b kk hb => by
      rw [h7] at hb
      simp only [H.newCells, H.new, Tr.get_set] at hb
      split at hb
      · rename_i h; exact .inl h
      · exact .inr hb
    have hB : (ρ e.s.h.size).B = B := by rw [hB1]
    refine ⟨by rw [hk1]; exact hsim, ?_, fun i i' e1 e2 h1 h2' hi hi' => I.pdis i i' e1 e2 h1 h2' (by omega) (by omega), ?_⟩
    · intro i e' he' hi hc' hL'
      obtain ⟨B', el', a1, a0, a2, a3, a4⟩ := I.pend i e' he' (by omega) hc' hL'
      refine ⟨B', el', a1, a0, a2, a3, fun b kk hr hb => ?_⟩
      rw [hk1] at hb
      rcases hget b kk hb with rfl | hb
      · have := I.pdis k i e e' he he' (Nat.le_refl _) (by omega) h2 hc' (hL h2) hL' (by omega)
        rw [a1] at this
        exact this
      · rw [← hk] at hb
        exact a4 b kk hr hb
    · rw [hk1]
      have st := I.step
      rw [hk] at st
      refine ⟨st.agree, Nat.le_trans st.size (C.ent he).size, st.os, st.tape, st.output, st.hsize, st.frame, fun r hr B' hB' ho b kk hb hg => ?_⟩
      rcases hget b kk hg with rfl | hg
      · rw [hB]; omega
      · exact st.img r hr B' hB' ho b kk hb hg
  · have heq : (sg s' es (k + 1)).h = (sg s' es k).h := by rw [hk1, hk]; exact Ent.same (C.ent he) (by omega)
    refine ⟨by rw [heq]; exact I.sim, ?_, fun i i' e1 e2 h1 h2' hi hi' => I.pdis i i' e1 e2 h1 h2' (by omega) (by omega), by rw [heq]; exact I.step⟩
    intro i e' he' hi hc' hL'
    rw [heq]
    exact I.pend i e' he' (by omega) hc' hL'

theorem HpC.upto (C : Cert P call ops T s0 s' es) {L : Nat → Prop} {ρ0 ρ : Nat → Loc} {w0 w : World} {p : Nat} (I : HpC es s0 s' p L ρ0 w0 ρ w) : ∀ q, p ≤ q → q ≤ es.length →
    (∀ (i : Nat) e, p ≤ i → i < q → es[i]? = some e → e.c ≤ 2 ∧ (e.c = 2 → L e.j)) → HpC es s0 s' q L ρ0 w0 ρ w
  | 0, hp, _, _ => by
    have : p = 0 := by omega
    subst this; exact I
  | q + 1, hp, hq, hx => by
    by_cases e : p = q + 1
    · subst e; exact I
    · have he : es[q]? = some es[q] := List.getElem?_eq_getElem hq
      obtain ⟨h1, h2⟩ := hx q _ (by omega) (by omega) he
      exact HpC.pass C (I.upto C q (by omega) (by omega) fun i e hi hi' => hx i e hi (by omega)) he h1 h2

theorem sim_push {ρ : Nat → Loc} {h : H} {w : World} (s : Sim ρ h w) (o : Obj) : Sim ρ h { w with heap := w.heap.push o } := {
  lt := s.lt
  obj := fun b k hb => (s.obj b k hb).mono (Agree.refl _ _) (Nat.le_refl _) (fun o' ho' => push_get ho')
  sep := s.sep
  grp := s.grp
  gsz := s.gsz
  glob := s.glob
  big := s.big }

theorem off_agree {ρ ρ' : Nat → Loc} {h : H} {w : World} (s : Sim ρ h w) (hA : Agree h.size ρ ρ') {r B : Nat} (ho : Off r ρ h B) : Off r ρ' h B := fun b k hr hb => by
  rw [hA b (s.lt b k hb)]; exact ho b k hr hb

theorem HpOK.light (C : Cert P call ops T s0 s' es) {p : Nat} {L : Nat → Prop} {ρ0 ρ : Nat → Loc} {w0 w : World} (I : HpOK es s0 s' p L ρ0 w0 ρ w) {i : Nat} {e : Ent} (he : es[i]? = some e) (hc : e.c ≤ 1) :
    HpOK es s0 s' p (Add L e.j) ρ0 w0 ρ w := by
  have hne : ∀ (k : Nat) (e' : Ent), es[k]? = some e' → 2 ≤ e'.c → Add L e.j e'.j → L e'.j := fun k e' hk hc' hL => by
    rcases hL with hL | hL
    · exact hL
    · have := C.uniq' hk he hL
      subst this; omega
  refine ⟨I.ple, fun k e' hk hp h2 => .inl (I.done k e' hk hp h2), fun k e' hk hp h3 hL => I.hv k e' hk hp h3 (hne k e' hk (by omega) hL), I.cur, ?_⟩
  refine ⟨I.c.sim, fun k e' hk hp h2 hL => I.c.pend k e' hk hp h2 (hne k e' hk (by omega) hL), ?_, I.c.step⟩
  intro k k' e1 e2 h1 h2 hk hk' hc1 hc2 hL1 hL2 hne'
  exact I.c.pdis k k' e1 e2 h1 h2 hk hk' hc1 hc2 (hne k e1 h1 (by omega) hL1) (hne k' e2 h2 (by omega) hL2) hne'

theorem HpOK.alloc (C : Cert P call ops T s0 s' es) {p : Nat} {L : Nat → Prop} {ρ0 ρ : Nat → Loc} {w0 w : World} (hcl : Closed ops L) (I : HpOK es s0 s' p L ρ0 w0 ρ w) {i : Nat} {e : Ent} (he : es[i]? = some e) (hc : e.c = 2) (hn : ¬ L e.j) (el : TypeId) :
    (∀ b, Vis es s0.h.size L b → ext ρ e.s.h.size ⟨w.heap.size, 0, 0⟩ b = ρ b) ∧
    HpOK es s0 s' p (Add L e.j) ρ0 w0 (ext ρ e.s.h.size ⟨w.heap.size, 0, 0⟩) { w with heap := w.heap.push (.cells (e.cs.map (ren ρ)).toArray el (0, 0)) } := by
  obtain ⟨_, _, mk, h4, h5, h6, h7⟩ := Ent.row (C.ent he) hc
  have hsz : e.h.size = e.s.h.size + 1 := by rw [h7]; rfl
  have hpi : p ≤ i := by
    rcases Nat.lt_or_ge i p with h | h
    · exact absurd (I.done i e he h (by omega)) hn
    · exact h
  have hple : (sg s' es p).h.size ≤ e.s.h.size := by
    rw [← sg_at (s' := s') es i e he]
    exact C.mono hpi (Nat.le_of_lt (lt_of_get he))
  have hA : ∀ b, Vis es s0.h.size L b → ext ρ e.s.h.size ⟨w.heap.size, 0, 0⟩ b = ρ b := fun b hb => by
    simp only [ext]
    rw [if_neg]
    rintro rfl
    rcases hb with hb | ⟨k, e', hk, hL, h1, h2⟩
    · have := C.low he; omega
    · rcases Nat.lt_trichotomy k i with hlt | rfl | hlt
      · have := C.apart hk he hlt; omega
      · rw [he] at hk
        have := Option.some.inj hk
        subst this; exact hn hL
      · have := C.apart he hk hlt; omega
  have hAg : Agree (sg s' es p).h.size ρ (ext ρ e.s.h.size ⟨w.heap.size, 0, 0⟩) := fun b hb => by
    simp only [ext]; rw [if_neg (by omega)]
  have hsim := sim_push (sim_agree hAg I.c.sim) (.cells (e.cs.map (ren ρ)).toArray el (0, 0))
  have hne : ∀ (k : Nat) (e' : Ent), es[k]? = some e' → k ≠ i → Add L e.j e'.j → L e'.j := fun k e' hk hki hL => by
    rcases hL with hL | hL
    · exact hL
    · exact absurd (C.uniq hk he hL) hki
  have hid : ∀ (k : Nat) (e' : Ent), es[k]? = some e' → e'.c = 2 → k ≠ i → e'.s.h.size ≠ e.s.h.size := fun k e' hk hc' hki hh => by
    obtain ⟨_, _, _, _, _, _, h7'⟩ := Ent.row (C.ent hk) hc'
    have hsz' : e'.h.size = e'.s.h.size + 1 := by rw [h7']; rfl
    rcases Nat.lt_or_gt_of_ne hki with hlt | hlt
    · have := C.apart hk he hlt; omega
    · have := C.apart he hk hlt; omega
  refine ⟨hA, I.ple, fun k e' hk hp h2 => .inl (I.done k e' hk hp h2), fun k e' hk hp h3 hL => ?_, I.cur, hsim, ?_, ?_, ?_⟩
  · rcases hL with hL | hL
    · exact I.hv k e' hk hp h3 hL
    · have := C.uniq' hk he hL
      subst this; omega
  · intro k e' hk hp h2 hL
    by_cases hki : k = i
    · subst hki
      rw [he] at hk
      have := Option.some.inj hk
      subst this
      refine ⟨w.heap.size, el, by simp [ext], I.c.step.hsize, by simp, ?_, fun b kk _ hb => ?_⟩
      · have : e.cs.map (ren (ext ρ e.s.h.size ⟨w.heap.size, 0, 0⟩)) = e.cs.map (ren ρ) := by
          rw [← renL_eq, ← renL_eq]
          exact renL_agree (ext_agree ρ e.s.h.size _) e.cs h5
        rw [this]; simp
      · rw [hAg b (I.c.sim.lt b kk hb)]
        exact Nat.ne_of_lt (I.c.sim.block_lt hb)
    · obtain ⟨B, el', a1, a0, a2, a3, a4⟩ := I.c.pend k e' hk hp h2 (hne k e' hk hki hL)
      refine ⟨B, el', ?_, a0, by simp only [Array.size_push]; omega, ?_, off_agree I.c.sim hAg a4⟩
      · simp only [ext]; rw [if_neg (hid k e' hk h2 hki)]; exact a1
      · rw [(C.renV hk hcl (hne k e' hk hki hL) hA).2]
        exact push_get a3
  · intro k k' e1 e2 h1 h2 hk hk' hc1 hc2 hL1 hL2 hne'
    have old : ∀ (m : Nat) (em : Ent), es[m]? = some em → p ≤ m → em.c = 2 → Add L e.j em.j → m ≠ i → ((ext ρ e.s.h.size ⟨w.heap.size, 0, 0⟩) em.s.h.size).B < w.heap.size := fun m em hm hpm hcm hLm hmi => by
      obtain ⟨B, el', a1, a0, a2, _⟩ := I.c.pend m em hm hpm hcm (hne m em hm hmi hLm)
      simp only [ext]; rw [if_neg (hid m em hm hcm hmi), a1]; exact a2
    have new : ((ext ρ e.s.h.size ⟨w.heap.size, 0, 0⟩) e.s.h.size).B = w.heap.size := by simp [ext]
    by_cases hki : k = i
    · subst hki
      rw [he] at h1
      have := Option.some.inj h1
      subst this
      rw [new]
      have := old k' e2 h2 hk' hc2 hL2 (Ne.symm hne')
      omega
    · by_cases hki' : k' = i
      · subst hki'
        rw [he] at h2
        have := Option.some.inj h2
        subst this
        rw [new]
        have := old k e1 h1 hk hc1 hL1 hne'
        omega
      · have b1 : ext ρ e.s.h.size ⟨w.heap.size, 0, 0⟩ e1.s.h.size = ρ e1.s.h.size := by simp only [ext]; rw [if_neg (hid k e1 h1 hc1 hki)]
        have b2 : ext ρ e.s.h.size ⟨w.heap.size, 0, 0⟩ e2.s.h.size = ρ e2.s.h.size := by simp only [ext]; rw [if_neg (hid k' e2 h2 hc2 hki')]
        rw [b1, b2]
        exact I.c.pdis k k' e1 e2 h1 h2 hk hk' hc1 hc2 (hne k e1 h1 hki hL1) (hne k' e2 h2 hki' hL2) hne'
  · refine I.c.step.trans ⟨hAg, Nat.le_refl _, rfl, rfl, rfl, by simp, fun B hB _ => ?_, fun r hr B hB ho => off_agree I.c.sim hAg ho⟩
    simp only [Array.getElem?_push]
    rw [if_neg (by omega)]

theorem stages_snoc : ∀ (l : List Ent) (e : Ent), e.c = 3 → stagesOf (l ++ [e]) = stagesOf l ++ [(e.j, e.h)]
  | [], e, h => by simp [stagesOf, h]
  | x :: l, e, h => by
    simp only [List.cons_append, stagesOf]
    split
    · rw [stages_snoc l e h]; rfl
    · exact stages_snoc l e h
theorem lastH_snoc : ∀ (l : List (Nat × H)) (h : H) (x : Nat × H), lastH h (l ++ [x]) = x.2
  | [], h, x => rfl
  | (y, h') :: l, h, x => by simp only [List.cons_append, lastH]; exact lastH_snoc l h' x

theorem HpOK.heavy (C : Cert P call ops T s0 s' es) {p : Nat} {L : Nat → Prop} {ρ0 ρ ρ1 : Nat → Loc} {w0 w w1 : World} (hcl : Closed ops L) (I : HpOK es s0 s' p L ρ0 w0 ρ w) {q : Nat} {e : Ent} (he : es[q]? = some e) (hc : e.c = 3) (hn : ¬ L e.j)
    (hpq : p ≤ q) (hq : HpC es s0 s' q L ρ0 w0 ρ w) (hall : ∀ (i : Nat) e', es[i]? = some e' → i < q → L e'.j) (hs1 : Sim ρ1 e.h w1) (hst : Step ρ e.s.h w ρ1 e.h w1) :
    ∃ ρ2, Agree e.h.size ρ1 ρ2 ∧ (∀ b, Vis es s0.h.size L b → ρ2 b = ρ b) ∧ HpOK es s0 s' (q + 1) (Add L e.j) ρ0 w0 ρ2 w1 := by
  have hk : sg s' es q = e.s := sg_at es q e he
  have hk1 : (sg s' es (q + 1)).h = e.h := C.nextH he
  have hlt : q < es.length := lt_of_get he
  let ρ2 : Nat → Loc := fun b => if b < e.h.size then ρ1 b else ρ b
  have hA12 : Agree e.h.size ρ1 ρ2 := fun b hb => by simp only [ρ2]; rw [if_pos hb]
  have hhi : ∀ b, e.h.size ≤ b → ρ2 b = ρ b := fun b hb => by simp only [ρ2]; rw [if_neg (by omega)]
  have hlo : ∀ b, b < e.s.h.size → ρ2 b = ρ b := fun b hb => by
    rw [hA12 b (Nat.lt_of_lt_of_le hb (C.ent he).size)]; exact hst.agree b hb
  have hV : ∀ b, Vis es s0.h.size L b → ρ2 b = ρ b := fun b hb => by
    rcases hb with hb | ⟨k, e', hk', hL, h1, h2⟩
    · exact hlo b (Nat.lt_of_lt_of_le hb (C.low he))
    · rcases Nat.lt_trichotomy k q with h | rfl | h
      · exact hlo b (Nat.lt_of_lt_of_le h2 (C.apart hk' he h))
      · rw [he] at hk'
        have := Option.some.inj hk'
        subst this; exact absurd hL hn
      · exact hhi b (Nat.le_trans (C.apart he hk' h) h1)
  have hne : ∀ (k : Nat) (e' : Ent), es[k]? = some e' → q + 1 ≤ k → Add L e.j e'.j → L e'.j := fun k e' hk' hqk hL => by
    rcases hL with hL | hL
    · exact hL
    · have := C.uniq hk' he hL; omega
  refine ⟨ρ2, hA12, hV, hlt, ?_, ?_, ?_, ?_, ?_, ?_, ?_⟩
  · intro k e' hk' hlt' _
    by_cases h : k = q
    · subst h
      rw [he] at hk'
      have := Option.some.inj hk'
      subst this; exact .inr rfl
    · exact .inl (hall k e' hk' (by omega))
  · intro k e' hk' hqk h3 hL
    exact I.hv k e' hk' (by omega) h3 (hne k e' hk' hqk hL)
  · rw [hk1]
    have : es.take (q + 1) = es.take q ++ [e] := by
      rw [List.take_add_one, he]; rfl
    rw [this, stages_snoc _ _ hc, lastH_snoc]
  · rw [hk1]; exact sim_agree hA12 hs1
  · intro k e' hk' hqk h2 hL
    have hL := hne k e' hk' hqk hL
    obtain ⟨B, el, a1, a0, a2, a3, a4⟩ := hq.pend k e' hk' (by omega) h2 hL
    rw [hk] at a4
    refine ⟨B, el, ?_, a0, Nat.lt_of_lt_of_le a2 hst.hsize, ?_, ?_⟩
    · rw [hhi _ (C.apart he hk' (by omega))]; exact a1
    · rw [hst.frame B a2 (fun b kk _ hb => a4 b kk (Nat.zero_le _) hb), (C.renV hk' hcl hL hV).2]
      exact a3
    · rw [hk1]
      exact off_agree hs1 hA12 (hst.img 0 (Nat.zero_le _) B a2 a4)
  · intro k k' e1 e2 h1 h2 hk1' hk2' hc1 hc2 hL1 hL2 hne'
    rw [hhi _ (C.apart he h1 (by omega)), hhi _ (C.apart he h2 (by omega))]
    exact hq.pdis k k' e1 e2 h1 h2 (by omega) (by omega) hc1 hc2 (hne k e1 h1 hk1' hL1) (hne k' e2 h2 hk2' hL2) hne'
  · rw [hk1]
    have st := hq.step
    rw [hk] at st
    refine st.trans ⟨fun b hb => hlo b hb, hst.size, hst.os, hst.tape, hst.output, hst.hsize, hst.frame, fun r hr B hB ho => off_agree hs1 hA12 (hst.img r hr B hB ho)⟩
end

end
end Go.AX
