import Derived.Test.YtnamakmnlagpgaaGreatDoorAx11
import Derived.Laws.Concat
set_option linter.unusedVariables false
set_option linter.unusedSimpArgs false
namespace Go.AX
noncomputable section
open Go

/-! ### a soft run that writes down what it leans on -/
inductive Ob where
  | call (f : FuncId) (args : Array Value)
  | val (got : Option Value) (u : Value)
  | add (a b : ByteArray)

def Holds (D : FuncId → Array Value → Prop) : Ob → Prop
  | .call f args => D f args
  | .val got u => got = some u
  | .add a b => a.size + b.size ≤ 9223372036854775807

def CallOn (P : Program) (D : FuncId → Array Value → Prop) (call : Call) : Prop := ∀ f args h v h', call f args h = some (v, h') → okA h.size args = true → D f args →
  ok h'.size v = true ∧ ∀ ρ w, Sim ρ h w → Calls P f (args.map (ren ρ)) w (fun e w' => ∃ ρ', e = .returned (ren ρ' v) ∧ Sim ρ' h' w' ∧ Step ρ h w ρ' h' w')

def addO {α : Type} (x : Ob) (r : Option (α × List Ob)) : Option (α × List Ob) :=
  match r with
  | some (s, l) => some (s, x :: l)
  | none => none
theorem addO_some {α : Type} {x : Ob} {r : Option (α × List Ob)} {s : α} {l : List Ob} (h : addO x r = some (s, l)) : ∃ l', r = some (s, l') ∧ l = x :: l' := by
  unfold addO at h
  split at h
  · rename_i s' l'
    simp only [Option.some.injEq, Prod.mk.injEq] at h
    obtain ⟨rfl, rfl⟩ := h
    exact ⟨l', rfl, rfl⟩
  · cases h

def orcOf (orc : Nat → Option Value) (o : Oper) : Option Value :=
  match o.dst with
  | some d => orc d
  | none => none

/-- a sum of texts -/
def addS (s : St) (o : Oper) : Option (ByteArray × ByteArray) :=
  match o.op with
  | .binOp .add _ x y _ => cond (opnOK x) (cond (opnOK y) (match ev s x, ev s y with
    | .string a, .string b => some (a, b)
    | _, _ => none) none) none
  | _ => none

theorem addS_run {P : Program} {ρ : Nat → Loc} {s : St} {a : Act} {w : World} {o : Oper} {x y : ByteArray} (hs : SimS ρ s a w) (h : addS s o = some (x, y)) (hlen : x.size + y.size ≤ 9223372036854775807) :
    (execOp a.eval o).run P w = .ok (.value (.string (x ++ y))) w := by
  unfold addS at h
  split at h
  · rename_i t p q t' ho
    obtain ⟨h1, h⟩ := cond_some h
    obtain ⟨h2, h⟩ := cond_some h
    split at h
    · rename_i a' b' ha hb
      simp only [Option.some.injEq, Prod.mk.injEq] at h
      obtain ⟨rfl, rfl⟩ := h
      have e1 := ev_eq hs h1
      have e2 := ev_eq hs h2
      rw [ha] at e1
      rw [hb] at e2
      simp only [ren] at e1 e2
      have hg : (eqGuard .add t p q (.string a') (.string b')).run P w = .ok () w := rfl
      simp only [execOp, ho, Sem.run_bind, e1, e2, hg, binOp, run_string_add_sum w _ _ hlen, Result.andThen_ok, Sem.run_pure]
    · cases h
  · cases h

def opsG (P : Program) (call : Call) (orc : Nat → Option Value) (ops : Array Oper) : List Nat → St → Option (St × List Ob)
  | [], s => some (s, [])
  | i :: l, s => match ops[i]? with
    | some o => cond (wantX ops s o)
      (match orcOf orc o with
       | some u => cond (free u) (cond (o.op.operands.all opnOK) (addO (.val (pureX P (ev s) o) u) (opsG P call orc ops l (s.put s.h o.dst u))) none) none
       | none => match addS s o with
         | some (x, y) => addO (.add x y) (opsG P call orc ops l (s.put s.h o.dst (.string (x ++ y))))
         | none => match opXS P (ev s) o s.h with
           | some (.val v h) => opsG P call orc ops l (s.put h o.dst v)
           | some (.call f args) => match call f args s.h with
             | some (v, h) => addO (.call f args) (opsG P call orc ops l (s.put h o.dst v))
             | none => none
           | none => none)
      (opsG P call orc ops l (s.put s.h o.dst undefV))
    | none => none

theorem opsG_wp {P : Program} (hnn : NoNum P) {D : FuncId → Array Value → Prop} {call : Call} (hc : CallOn P D call) {orc : Nat → Option Value} {ops : Array Oper} {Q : Exit → Act → World → Prop} : ∀ (l : List Nat) (s s' : St) (lg : List Ob) (ρ : Nat → Loc) (a : Act) (w : World),
    opsG P call orc ops l s = some (s', lg) → (∀ x, x ∈ lg → Holds D x) → SimS ρ s a w →
    (∀ ρ' a' w', SimS ρ' s' a' w' → Step ρ s.h w ρ' s'.h w' → Q .normal a' w') → wpOps P ops Q l a w := by
  intro l
  induction l with
  | nil =>
    intro s s' lg ρ a w hx _ hs hQ
    simp only [opsG, Option.some.injEq, Prod.mk.injEq] at hx
    obtain ⟨rfl, rfl⟩ := hx
    exact hQ ρ a w hs (Step.refl _ _ _)
  | cons i l ih =>
    intro s s' lg ρ a w hx hlg hs hQ
    unfold opsG at hx
    simp only [wpOps]
    split at hx
    · rename_i o ho
      rw [ho]
      simp only
      rw [want_eq hs]
      cases hw : wantX ops s o with
      | true =>
        rw [hw] at hx
        simp only [cond_true] at hx
        simp only [if_true]
        refine .inl ?_
        split at hx
        · rename_i u hu
          obtain ⟨h1, hx⟩ := cond_some hx
          obtain ⟨h2, hx⟩ := cond_some hx
          obtain ⟨lg', hx', rfl⟩ := addO_some hx
          have hv : pureX P (ev s) o = some u := hlg (.val (pureX P (ev s) o) u) (by simp)
          have hev : ∀ x, x ∈ o.op.operands → a.eval x = ren ρ (ev s x) := fun x hxm => ev_eq hs (Array.all_eq_true_iff_forall_mem.1 h2 x hxm)
          have hr : (execOp a.eval o).run P w = .ok (.value (ren ρ u)) w := pureX_run hv hev w
          unfold Oper.wp
          rw [hr]
          simp only [Oper.upon]
          exact ih _ _ _ ρ _ w hx' (fun x hxm => hlg x (by simp [hxm])) (put_simS hs hs.sim (Step.refl _ _ _) (ok_free u h1) o.dst) (fun ρ2 a2 w2 hs2 hst2 => hQ ρ2 a2 w2 hs2 (by rw [put_h] at hst2; exact hst2))
        · split at hx
          · rename_i x y hxy
            obtain ⟨lg', hx', rfl⟩ := addO_some hx
            have hr := addS_run (P := P) hs hxy (hlg (.add x y) (by simp))
            unfold Oper.wp
            rw [hr]
            simp only [Oper.upon]
            have hp := put_simS (v := .string (x ++ y)) hs hs.sim (Step.refl _ _ _) (by simp [ok]) o.dst
            simp only [ren] at hp
            exact ih _ _ _ ρ _ w hx' (fun x hxm => hlg x (by simp [hxm])) hp (fun ρ2 a2 w2 hs2 hst2 => hQ ρ2 a2 w2 hs2 (by rw [put_h] at hst2; exact hst2))
          split at hx
          · rename_i v h' hst
            have fin : ∀ ρ' w', Sim ρ' h' w' → Step ρ s.h w ρ' h' w' → ok h'.size v = true → wpOps P ops Q l (a.put o.dst (ren ρ' v)) w' := fun ρ' w' h1 h2 h3 =>
              ih _ _ _ ρ' _ w' hx hlg (put_simS hs h1 h2 h3 o.dst) (fun ρ2 a2 w2 hs2 hst2 => hQ ρ2 a2 w2 hs2 (h2.trans (by rw [put_h] at hst2; exact hst2)))
            unfold Oper.wp
            rcases opXS_run hnn hs.sim hst (fun x _ hok => ev_eq hs hok) with ⟨v', h3, e, hok, nx, w', ρ', hr, hn, hsim, hstp⟩ | ⟨f, args, e, _⟩
            · simp only [R.val.injEq] at e
              obtain ⟨rfl, rfl⟩ := e
              rw [hr]
              have hgo := fin ρ' w' hsim hstp hok
              cases nx with
              | value u' =>
                simp only [NextIs] at hn
                subst hn
                simpa only [Oper.upon] using hgo
              | skip =>
                simp only [NextIs] at hn
                rw [hn] at hgo
                exact hgo
              | _ => exact hn.elim
            · cases e
          · rename_i f args hst
            split at hx
            · rename_i v h' hcall
              obtain ⟨lg', hx', rfl⟩ := addO_some hx
              unfold Oper.wp
              rcases opXS_run hnn hs.sim hst (fun x _ hok => ev_eq hs hok) with ⟨v', h3, e, _⟩ | ⟨f', args', e, hok, hr⟩
              · cases e
              · simp only [R.call.injEq] at e
                obtain ⟨rfl, rfl⟩ := e
                rw [hr]
                simp only [Oper.upon]
                obtain ⟨hv, hcalls⟩ := hc _ _ _ _ _ hcall hok (hlg (.call f args) (by simp))
                refine (hcalls ρ w hs.sim).mono fun e w' he => ?_
                obtain ⟨ρ', rfl, hsim, hstp⟩ := he
                exact ih _ _ _ ρ' _ w' hx' (fun x hxm => hlg x (by simp [hxm])) (put_simS hs hsim hstp hv o.dst) (fun ρ2 a2 w2 hs2 hst2 => hQ ρ2 a2 w2 hs2 (hstp.trans (by rw [put_h] at hst2; exact hst2)))
            · cases hx
          · cases hx
      | false =>
        rw [hw] at hx
        simp only [cond_false] at hx
        simp only [Bool.false_eq_true, if_false]
        have hp := put_simS hs hs.sim (Step.refl _ _ _) (ok_undef _) o.dst
        rw [ren_undef] at hp
        exact ih _ _ _ ρ _ w hx hlg hp (fun ρ2 a2 w2 hs2 hst2 => hQ ρ2 a2 w2 hs2 (by rw [put_h] at hst2; exact hst2))
    · cases hx

abbrev RegG := Array Oper → Bool → St → Option (St × List Ob)

def regG (P : Program) (call : Call) (orc : Nat → Option Value) : RegG := fun ops d s => cond d none (opsG P call orc ops (List.range ops.size) s)

open Classical in
/-- the run that goes on only where all that it leans on holds -/
def regOf (D : FuncId → Array Value → Prop) (reg : RegG) : Reg := fun ops d s =>
  match reg ops d s with
  | some (s', lg) => if (∀ x, x ∈ lg → Holds D x) then some s' else none
  | none => none

theorem regOf_ok {P : Program} (hnn : NoNum P) {D : FuncId → Array Value → Prop} {call : Call} (hc : CallOn P D call) (orc : Nat → Option Value) : RegOK P (regOf D (regG P call orc)) := by
  intro ops d s s' h id ρ a w Q hs hQ
  unfold regOf at h
  split at h
  · rename_i s1 lg hg
    split at h
    · rename_i hlg
      simp only [Option.some.injEq] at h; subst h
      cases d with
      | true => cases hg
      | false =>
        refine wp_region ?_
        exact opsG_wp hnn hc (List.range ops.size) s s1 lg ρ a w hg hlg hs hQ
    · cases h
  · cases h

def regExG (r : Option (St × List Ob)) : Option (Ex × St × List Ob) :=
  match r with
  | some (s1, lg) => some (.normal, s1, lg)
  | none => none
def andG (lg : List Ob) (r : Option (Ex × St × List Ob)) : Option (Ex × St × List Ob) :=
  match r with
  | some (e, s, l) => some (e, s, lg ++ l)
  | none => none
def seqG (f : St → Option (Ex × St × List Ob)) (r : Option (Ex × St × List Ob)) : Option (Ex × St × List Ob) :=
  match r with
  | some (.normal, s1, lg) => andG lg (f s1)
  | some (e, s1, lg) => some (e, s1, lg)
  | none => none
def blockG (id : Nat) (r : Option (Ex × St × List Ob)) : Option (Ex × St × List Ob) :=
  match r with
  | some (.exit j, s1, lg) => cond (Nat.beq j id) (some (.normal, s1, lg)) (some (.exit j, s1, lg))
  | some (e, s1, lg) => some (e, s1, lg)
  | none => none
def condG (f g : St → Option (Ex × St × List Ob)) (s : St) (v : Value) : Option (Ex × St × List Ob) :=
  match v with
  | .bool t => cond t (f s) (g s)
  | _ => none
def iterG (f : St → Option (Ex × St × List Ob)) : Nat → St → Option (Ex × St × List Ob)
  | 0, _ => none
  | n + 1, s => match f s with
    | some (.normal, s1, lg) => andG lg (iterG f n s1)
    | some (e, s1, lg) => some (e, s1, lg)
    | none => none

def codeG (reg : RegG) (lf : Nat) : Code → St → Option (Ex × St × List Ob)
  | .skip, s => some (.normal, s, [])
  | .label _, s => some (.normal, s, [])
  | .region _ ops d, s => regExG (reg ops d s)
  | .seq a b, s => seqG (codeG reg lf b) (codeG reg lf a s)
  | .cond c a b, s => cond (opnOK c) (condG (codeG reg lf a) (codeG reg lf b) s (ev s c)) none
  | .block id b, s => blockG id (codeG reg lf b s)
  | .loop b, s => iterG (codeG reg lf b) lf s
  | .scope b, s => codeG reg lf b s
  | .exit id, s => some (.exit id, s, [])
  | .ret, s => some (.ret, s, [])
  | _, _ => none

theorem andG_some {lg : List Ob} {r : Option (Ex × St × List Ob)} {e : Ex} {s : St} {l : List Ob} (h : andG lg r = some (e, s, l)) : ∃ l', r = some (e, s, l') ∧ l = lg ++ l' := by
  unfold andG at h
  split at h
  · rename_i e' s' l'
    simp only [Option.some.injEq, Prod.mk.injEq] at h
    obtain ⟨rfl, rfl, rfl⟩ := h
    exact ⟨l', rfl, rfl⟩
  · cases h

theorem codeG_ok {D : FuncId → Array Value → Prop} {reg : RegG} {lf : Nat} : ∀ (c : Code) (s s' : St) (e : Ex) (lg : List Ob), codeG reg lf c s = some (e, s', lg) → (∀ x, x ∈ lg → Holds D x) →
    codeX (regOf D reg) lf c s = some (e, s') := by
  intro c
  induction c with
  | skip => intro s s' e lg h _; simp only [codeG, Option.some.injEq, Prod.mk.injEq] at h; obtain ⟨rfl, rfl, _⟩ := h; rfl
  | label _ => intro s s' e lg h _; simp only [codeG, Option.some.injEq, Prod.mk.injEq] at h; obtain ⟨rfl, rfl, _⟩ := h; rfl
  | region id ops d =>
    intro s s' e lg h hl
    simp only [codeG] at h
    unfold regExG at h
    split at h
    · rename_i s1 lg1 hr
      simp only [Option.some.injEq, Prod.mk.injEq] at h
      obtain ⟨rfl, rfl, rfl⟩ := h
      simp only [codeX, regOf, hr]
      rw [if_pos hl]
      rfl
    · cases h
  | seq a b iha ihb =>
    intro s s' e lg h hl
    simp only [codeG] at h
    simp only [codeX]
    unfold seqG at h
    split at h
    · rename_i s1 lg1 hr
      obtain ⟨l2, h2, rfl⟩ := andG_some h
      rw [iha s s1 .normal lg1 hr fun x hx => hl x (by simp [hx])]
      exact ihb s1 s' e l2 h2 fun x hx => hl x (by simp [hx])
    · rename_i e1 s1 lg1 hne hr
      simp only [Option.some.injEq, Prod.mk.injEq] at h
      obtain ⟨rfl, rfl, rfl⟩ := h
      rw [iha s s1 e1 lg1 hr hl]
      cases e1 <;> first | rfl | exact absurd rfl (hne)
    · cases h
  | cond c a b iha ihb =>
    intro s s' e lg h hl
    simp only [codeG] at h
    simp only [codeX]
    obtain ⟨h1, h⟩ := cond_some h
    rw [h1]
    simp only [cond_true]
    unfold condG at h
    unfold condEx
    split at h
    · rename_i t hv
      rw [hv]
      simp only
      cases t with
      | true => exact iha s s' e lg h hl
      | false => exact ihb s s' e lg h hl
    · cases h
  | block id b ih =>
    intro s s' e lg h hl
    simp only [codeG] at h
    simp only [codeX]
    unfold blockG at h
    split at h
    · rename_i j s1 lg1 hr
      cases hj : Nat.beq j id with
      | true =>
        rw [hj] at h
        simp only [cond_true, Option.some.injEq, Prod.mk.injEq] at h
        obtain ⟨rfl, rfl, rfl⟩ := h
        rw [ih s s1 (.exit j) lg1 hr hl]
        simp only [blockEx, hj, cond_true]
      | false =>
        rw [hj] at h
        simp only [cond_false, Option.some.injEq, Prod.mk.injEq] at h
        obtain ⟨rfl, rfl, rfl⟩ := h
        rw [ih s s1 (.exit j) lg1 hr hl]
        simp only [blockEx, hj, cond_false]
    · rename_i e1 s1 lg1 hne hr
      simp only [Option.some.injEq, Prod.mk.injEq] at h
      obtain ⟨rfl, rfl, rfl⟩ := h
      rw [ih s s1 e1 lg1 hr hl]
      cases e1 <;> first | rfl | exact absurd rfl (hne _)
    · cases h
  | loop b ih =>
    intro s s' e lg h hl
    simp only [codeG] at h
    simp only [codeX]
    suffices key : ∀ (n : Nat) (s : St) (lg : List Ob), iterG (codeG reg lf b) n s = some (e, s', lg) → (∀ x, x ∈ lg → Holds D x) → iterX (codeX (regOf D reg) lf b) n s = some (e, s') from key lf s lg h hl
    intro n
    induction n with
    | zero => intro s lg h; cases h
    | succ n ihn =>
      intro s lg h hl
      simp only [iterG] at h
      simp only [iterX]
      split at h
      · rename_i s1 lg1 hr
        obtain ⟨l2, h2, rfl⟩ := andG_some h
        rw [ih s s1 .normal lg1 hr fun x hx => hl x (by simp [hx])]
        exact ihn s1 l2 h2 fun x hx => hl x (by simp [hx])
      · rename_i e1 s1 lg1 hne hr
        simp only [Option.some.injEq, Prod.mk.injEq] at h
        obtain ⟨rfl, rfl, rfl⟩ := h
        rw [ih s s1 e1 lg1 hr hl]
        cases e1 <;> first | rfl | exact absurd rfl (hne)
      · cases h
  | scope b ih => intro s s' e lg h hl; simp only [codeG] at h; simp only [codeX]; exact ih s s' e lg h hl
  | exit id => intro s s' e lg h _; simp only [codeG, Option.some.injEq, Prod.mk.injEq] at h; obtain ⟨rfl, rfl, _⟩ := h; rfl
  | ret => intro s s' e lg h _; simp only [codeG, Option.some.injEq, Prod.mk.injEq] at h; obtain ⟨rfl, rfl, _⟩ := h; rfl
  | _ => intro s s' e lg h; simp [codeG] at h

def endG (P : Program) (fn : Func) (r : Option (Ex × St × List Ob)) : Option (Value × H × List Ob) :=
  match r with
  | some (.normal, s, lg) => match retX P fn s with
    | some (v, h) => some (v, h, lg)
    | none => none
  | some (.ret, s, lg) => match retX P fn s with
    | some (v, h) => some (v, h, lg)
    | none => none
  | _ => none

def funcG (P : Program) (call : Call) (orc : Nat → Option Value) (lf : Nat) (fn : Option Func) (args : Array Value) (h : H) : Option (Value × H × List Ob) :=
  match fn with
  | some fn => match fn.body with
    | some c => endG P fn (codeG (regG P call orc) lf c (enterX fn args h))
    | none => none
  | none => none

theorem funcG_ok {P : Program} (hnn : NoNum P) {D : FuncId → Array Value → Prop} {call : Call} (hc : CallOn P D call) {orc : Nat → Option Value} {lf : Nat} {f : FuncId} {args : Array Value} {h h' : H} {v : Value} {lg : List Ob}
    (hx : funcG P call orc lf P.funcs[f]? args h = some (v, h', lg)) (hl : ∀ x, x ∈ lg → Holds D x) (hok : okA h.size args = true) {ρ : Nat → Loc} {w : World} (s : Sim ρ h w) :
    Calls P f (args.map (ren ρ)) w (fun e w' => ∃ ρ', e = .returned (ren ρ' v) ∧ Sim ρ' h' w' ∧ Step ρ h w ρ' h' w') := by
  have hcx := calls_ok hnn (reg := fun _ => regOf D (regG P call orc)) (fun _ _ => regOf_ok hnn hc orc) (ext := fun _ => none) (fun f g hf => by cases hf) lf 1
  refine (hcx.2 f args h v h' ?_ hok).2 ρ w s
  cases hfn : P.funcs[f]? with
  | none => rw [hfn] at hx; cases hx
  | some fn =>
    rw [hfn] at hx
    simp only [funcG] at hx
    simp only [callsX, hfn, bodyX]
    cases hb : fn.body with
    | none => rw [hb] at hx; cases hx
    | some c =>
      rw [hb] at hx
      simp only at hx
      simp only
      unfold endG at hx
      split at hx
      · rename_i s1 lg1 hr
        split at hx
        · rename_i v1 h1 hret
          simp only [Option.some.injEq, Prod.mk.injEq] at hx
          obtain ⟨rfl, rfl, rfl⟩ := hx
          rw [codeG_ok c _ _ _ _ hr hl]
          exact hret
        · cases hx
      · rename_i s1 lg1 hr
        split at hx
        · rename_i v1 h1 hret
          simp only [Option.some.injEq, Prod.mk.injEq] at hx
          obtain ⟨rfl, rfl, rfl⟩ := hx
          rw [codeG_ok c _ _ _ _ hr hl]
          exact hret
        · cases hx
      · cases hx

end
end Go.AX

namespace Go.AX
noncomputable section
open Go

/-! ### the run with a word on the world that every step keeps -/
structure SimJ (J : (Nat → Loc) → H → World → Prop) (ρ : Nat → Loc) (s : St) (a : Act) (w : World) : Prop where
  st : SimS ρ s a w
  j : J ρ s.h w

def KeptJ (J : (Nat → Loc) → H → World → Prop) : Prop := ∀ ρ h w ρ' h' w', Step ρ h w ρ' h' w' → J ρ h w → J ρ' h' w'

def RegOKJ (J : (Nat → Loc) → H → World → Prop) (P : Program) (reg : Reg) : Prop := ∀ (ops : Array Oper) (d : Bool) (s s' : St), reg ops d s = some s' →
  ∀ (id : Nat) (ρ : Nat → Loc) (a : Act) (w : World) (Q : Exit → Act → World → Prop), SimJ J ρ s a w →
    (∀ ρ' a' w', SimJ J ρ' s' a' w' → Step ρ s.h w ρ' s'.h w' → Q .normal a' w') → (Code.region id ops d).wp P Q a w

def GoodJ (J : (Nat → Loc) → H → World → Prop) (P : Program) (c : Code) (f : St → Option (Ex × St)) : Prop := ∀ (s s' : St) (e : Ex), f s = some (e, s') →
  ∀ (ρ : Nat → Loc) (a : Act) (w : World) (Q : Exit → Act → World → Prop), SimJ J ρ s a w →
    (∀ ρ' a' w', SimJ J ρ' s' a' w' → Step ρ s.h w ρ' s'.h w' → Q (exOf e) a' w') → c.wp P Q a w

theorem iter_roundsJ {J : (Nat → Loc) → H → World → Prop} {P : Program} {c : Code} {f : St → Option (Ex × St)} (hf : GoodJ J P c f) : ∀ (n : Nat) (s s' : St) (e : Ex), iterX f n s = some (e, s') →
    ∀ (ρ : Nat → Loc) (a : Act) (w : World) (Q : Exit → Act → World → Prop), SimJ J ρ s a w →
    (∀ ρ' a' w', SimJ J ρ' s' a' w' → Step ρ s.h w ρ' s'.h w' → Q (exOf e) a' w') → e ≠ .normal ∧ Code.rounds P c Q n a w := by
  intro n
  induction n with
  | zero => intro s s' e h; cases h
  | succ n ih =>
    intro s s' e h ρ a w Q hs hQ
    unfold iterX at h
    rw [rounds_succ]
    split at h
    · rename_i s1 h1
      refine ⟨?_, hf s s1 .normal h1 ρ a w _ hs fun ρ' a' w' hs' hst => ?_⟩
      · -- one more round ends: its exit is no normal one
        exact ((fun hne => hne) (by
          have : ∀ n s s' e, iterX f n s = some (e, s') → e ≠ .normal := by
            intro n
            induction n with
            | zero => intro s s' e h; cases h
            | succ n ih =>
              intro s s' e h
              unfold iterX at h
              split at h
              · exact ih _ _ _ h
              · rename_i e1 s2 hne h2
                simp only [Option.some.injEq, Prod.mk.injEq] at h
                obtain ⟨rfl, rfl⟩ := h
                exact hne
              · cases h
          exact this n s1 s' e h))
      · exact (ih s1 s' e h ρ' a' w' Q hs' fun ρ2 a2 w2 hs2 hst2 => hQ ρ2 a2 w2 hs2 (hst.trans hst2)).2
    · rename_i e1 s1 hne h1
      simp only [Option.some.injEq, Prod.mk.injEq] at h
      obtain ⟨rfl, rfl⟩ := h
      have hnn : e1 ≠ .normal := hne
      refine ⟨hnn, hf s s1 e1 h1 ρ a w _ hs fun ρ' a' w' hs' hst => ?_⟩
      have := hQ ρ' a' w' hs' hst
      cases e1 with
      | normal => exact absurd rfl hnn
      | exit id => exact this
      | ret => exact this
    · cases h

theorem code_goodJ {J : (Nat → Loc) → H → World → Prop} {P : Program} {reg : Reg} (hd : RegOKJ J P reg) (lf : Nat) : ∀ c : Code, GoodJ J P c (codeX reg lf c) := by
  intro c
  induction c with
  | skip =>
    intro s s' e h ρ a w Q hs hQ
    simp only [codeX, Option.some.injEq, Prod.mk.injEq] at h
    obtain ⟨rfl, rfl⟩ := h
    exact wp_skip (hQ ρ a w hs (Step.refl _ _ _))
  | label l =>
    intro s s' e h ρ a w Q hs hQ
    simp only [codeX, Option.some.injEq, Prod.mk.injEq] at h
    obtain ⟨rfl, rfl⟩ := h
    exact wp_label (hQ ρ a w hs (Step.refl _ _ _))
  | exit id =>
    intro s s' e h ρ a w Q hs hQ
    simp only [codeX, Option.some.injEq, Prod.mk.injEq] at h
    obtain ⟨rfl, rfl⟩ := h
    exact wp_exit (hQ ρ a w hs (Step.refl _ _ _))
  | ret =>
    intro s s' e h ρ a w Q hs hQ
    simp only [codeX, Option.some.injEq, Prod.mk.injEq] at h
    obtain ⟨rfl, rfl⟩ := h
    exact wp_ret (hQ ρ a w hs (Step.refl _ _ _))
  | goto l => intro s s' e h; cases h
  | refuse why => intro s s' e h; cases h
  | rangeFunc f ps as b _ _ => intro s s' e h; cases h
  | region id ops d =>
    intro s s' e h ρ a w Q hs hQ
    simp only [codeX, regEx] at h
    split at h
    · rename_i s1 h1
      simp only [Option.some.injEq, Prod.mk.injEq] at h
      obtain ⟨rfl, rfl⟩ := h
      exact hd ops d s s1 h1 id ρ a w Q hs hQ
    · cases h
  | seq x y ihx ihy =>
    intro s s' e h ρ a w Q hs hQ
    simp only [codeX, seqEx] at h
    split at h
    · rename_i s1 h1
      refine wp_seq (ihx s s1 .normal h1 ρ a w _ hs fun ρ' a' w' hs' hst => ?_)
      exact ihy s1 s' e h ρ' a' w' Q hs' fun ρ2 a2 w2 hs2 hst2 => hQ ρ2 a2 w2 hs2 (hst.trans hst2)
    · rename_i e1 s1 hne h1
      simp only [Option.some.injEq, Prod.mk.injEq] at h
      obtain ⟨rfl, rfl⟩ := h
      refine wp_seq (ihx s s1 e1 h1 ρ a w _ hs fun ρ' a' w' hs' hst => ?_)
      have := hQ ρ' a' w' hs' hst
      cases e1 with
      | normal => exact absurd rfl hne
      | exit id => exact this
      | ret => exact this
    · cases h
  | cond c x y ihx ihy =>
    intro s s' e h ρ a w Q hs hQ
    simp only [codeX] at h
    obtain ⟨h1, h⟩ := cond_some h
    unfold condEx at h
    split at h
    · rename_i t ht
      have hev : a.eval c = .bool t := by rw [ev_eq hs.st h1, ht]; simp only [ren]
      refine wp_cond hev ?_
      cases t with
      | true => exact ihx s s' e h ρ a w Q hs hQ
      | false => exact ihy s s' e h ρ a w Q hs hQ
    · cases h
  | block id b ih =>
    intro s s' e h ρ a w Q hs hQ
    simp only [codeX, blockEx] at h
    split at h
    · rename_i j s1 h1
      refine wp_block (ih s s1 (.exit j) h1 ρ a w _ hs fun ρ' a' w' hs' hst => ?_)
      cases hj : Nat.beq j id with
      | true =>
        rw [hj] at h
        simp only [cond_true, Option.some.injEq, Prod.mk.injEq] at h
        obtain ⟨rfl, rfl⟩ := h
        have := nbeq_true hj
        simp only [exOf, Exit.inBlock, this, if_true]
        exact hQ ρ' a' w' hs' hst
      | false =>
        rw [hj] at h
        simp only [cond_false, Option.some.injEq, Prod.mk.injEq] at h
        obtain ⟨rfl, rfl⟩ := h
        have hne : ¬ j = id := fun e => by subst e; rw [Nat.beq_refl] at hj; cases hj
        simp only [exOf, Exit.inBlock, hne, if_false]
        exact hQ ρ' a' w' hs' hst
    · rename_i e1 s1 hne h1
      simp only [Option.some.injEq, Prod.mk.injEq] at h
      obtain ⟨rfl, rfl⟩ := h
      refine wp_block (ih s s1 e1 h1 ρ a w _ hs fun ρ' a' w' hs' hst => ?_)
      have := hQ ρ' a' w' hs' hst
      cases e1 with
      | normal => exact this
      | exit j => exact absurd rfl (hne j)
      | ret => exact this
    · cases h
  | loop b ih =>
    intro s s' e h ρ a w Q hs hQ
    simp only [codeX] at h
    exact wp_loop_rounds lf (iter_roundsJ ih lf s s' e h ρ a w Q hs hQ).2
  | scope b ih =>
    intro s s' e h ρ a w Q hs hQ
    simp only [codeX] at h
    refine wp_scope_straight (ih s s' e h ρ a w _ hs fun ρ' a' w' hs' hst => ?_)
    have := hQ ρ' a' w' hs' hst
    cases e <;> exact this

def CallJ (J : (Nat → Loc) → H → World → Prop) (P : Program) (D : FuncId → Array Value → Prop) (call : Call) : Prop := ∀ f args h v h', call f args h = some (v, h') → okA h.size args = true → D f args →
  ok h'.size v = true ∧ ∀ ρ w, Sim ρ h w → J ρ h w → Calls P f (args.map (ren ρ)) w (fun e w' => ∃ ρ', e = .returned (ren ρ' v) ∧ Sim ρ' h' w' ∧ Step ρ h w ρ' h' w')

theorem opsG_wpJ {J : (Nat → Loc) → H → World → Prop} (hJ : KeptJ J) {P : Program} (hnn : NoNum P) {D : FuncId → Array Value → Prop} {call : Call} (hc : CallJ J P D call) {orc : Nat → Option Value} {ops : Array Oper} {Q : Exit → Act → World → Prop} : ∀ (l : List Nat) (s s' : St) (lg : List Ob) (ρ : Nat → Loc) (a : Act) (w : World),
    opsG P call orc ops l s = some (s', lg) → (∀ x, x ∈ lg → Holds D x) → SimS ρ s a w → J ρ s.h w →
    (∀ ρ' a' w', SimS ρ' s' a' w' → Step ρ s.h w ρ' s'.h w' → Q .normal a' w') → wpOps P ops Q l a w := by
  intro l
  induction l with
  | nil =>
    intro s s' lg ρ a w hx _ hs hj hQ
    simp only [opsG, Option.some.injEq, Prod.mk.injEq] at hx
    obtain ⟨rfl, rfl⟩ := hx
    exact hQ ρ a w hs (Step.refl _ _ _)
  | cons i l ih =>
    intro s s' lg ρ a w hx hlg hs hj hQ
    unfold opsG at hx
    simp only [wpOps]
    split at hx
    · rename_i o ho
      rw [ho]
      simp only
      rw [want_eq hs]
      cases hw : wantX ops s o with
      | true =>
        rw [hw] at hx
        simp only [cond_true] at hx
        simp only [if_true]
        refine .inl ?_
        split at hx
        · rename_i u hu
          obtain ⟨h1, hx⟩ := cond_some hx
          obtain ⟨h2, hx⟩ := cond_some hx
          obtain ⟨lg', hx', rfl⟩ := addO_some hx
          have hv : pureX P (ev s) o = some u := hlg (.val (pureX P (ev s) o) u) (by simp)
          have hev : ∀ x, x ∈ o.op.operands → a.eval x = ren ρ (ev s x) := fun x hxm => ev_eq hs (Array.all_eq_true_iff_forall_mem.1 h2 x hxm)
          have hr : (execOp a.eval o).run P w = .ok (.value (ren ρ u)) w := pureX_run hv hev w
          unfold Oper.wp
          rw [hr]
          simp only [Oper.upon]
          exact ih _ _ _ ρ _ w hx' (fun x hxm => hlg x (by simp [hxm])) (put_simS hs hs.sim (Step.refl _ _ _) (ok_free u h1) o.dst) (by rw [put_h]; exact hj) (fun ρ2 a2 w2 hs2 hst2 => hQ ρ2 a2 w2 hs2 (by rw [put_h] at hst2; exact hst2))
        · split at hx
          · rename_i x y hxy
            obtain ⟨lg', hx', rfl⟩ := addO_some hx
            have hr := addS_run (P := P) hs hxy (hlg (.add x y) (by simp))
            unfold Oper.wp
            rw [hr]
            simp only [Oper.upon]
            have hp := put_simS (v := .string (x ++ y)) hs hs.sim (Step.refl _ _ _) (by simp [ok]) o.dst
            simp only [ren] at hp
            exact ih _ _ _ ρ _ w hx' (fun x hxm => hlg x (by simp [hxm])) hp (by rw [put_h]; exact hj) (fun ρ2 a2 w2 hs2 hst2 => hQ ρ2 a2 w2 hs2 (by rw [put_h] at hst2; exact hst2))
          split at hx
          · rename_i v h' hst
            have fin : ∀ ρ' w', Sim ρ' h' w' → Step ρ s.h w ρ' h' w' → ok h'.size v = true → wpOps P ops Q l (a.put o.dst (ren ρ' v)) w' := fun ρ' w' h1 h2 h3 =>
              ih _ _ _ ρ' _ w' hx hlg (put_simS hs h1 h2 h3 o.dst) (by rw [put_h]; exact hJ _ _ _ _ _ _ h2 hj) (fun ρ2 a2 w2 hs2 hst2 => hQ ρ2 a2 w2 hs2 (h2.trans (by rw [put_h] at hst2; exact hst2)))
            unfold Oper.wp
            rcases opXS_run hnn hs.sim hst (fun x _ hok => ev_eq hs hok) with ⟨v', h3, e, hok, nx, w', ρ', hr, hn, hsim, hstp⟩ | ⟨f, args, e, _⟩
            · simp only [R.val.injEq] at e
              obtain ⟨rfl, rfl⟩ := e
              rw [hr]
              have hgo := fin ρ' w' hsim hstp hok
              cases nx with
              | value u' =>
                simp only [NextIs] at hn
                subst hn
                simpa only [Oper.upon] using hgo
              | skip =>
                simp only [NextIs] at hn
                rw [hn] at hgo
                exact hgo
              | _ => exact hn.elim
            · cases e
          · rename_i f args hst
            split at hx
            · rename_i v h' hcall
              obtain ⟨lg', hx', rfl⟩ := addO_some hx
              unfold Oper.wp
              rcases opXS_run hnn hs.sim hst (fun x _ hok => ev_eq hs hok) with ⟨v', h3, e, _⟩ | ⟨f', args', e, hok, hr⟩
              · cases e
              · simp only [R.call.injEq] at e
                obtain ⟨rfl, rfl⟩ := e
                rw [hr]
                simp only [Oper.upon]
                obtain ⟨hv, hcalls⟩ := hc _ _ _ _ _ hcall hok (hlg (.call f args) (by simp))
                refine (hcalls ρ w hs.sim hj).mono fun e w' he => ?_
                obtain ⟨ρ', rfl, hsim, hstp⟩ := he
                exact ih _ _ _ ρ' _ w' hx' (fun x hxm => hlg x (by simp [hxm])) (put_simS hs hsim hstp hv o.dst) (by rw [put_h]; exact hJ _ _ _ _ _ _ hstp hj) (fun ρ2 a2 w2 hs2 hst2 => hQ ρ2 a2 w2 hs2 (hstp.trans (by rw [put_h] at hst2; exact hst2)))
            · cases hx
          · cases hx
      | false =>
        rw [hw] at hx
        simp only [cond_false] at hx
        simp only [Bool.false_eq_true, if_false]
        have hp := put_simS hs hs.sim (Step.refl _ _ _) (ok_undef _) o.dst
        rw [ren_undef] at hp
        exact ih _ _ _ ρ _ w hx hlg hp (by rw [put_h]; exact hj) (fun ρ2 a2 w2 hs2 hst2 => hQ ρ2 a2 w2 hs2 (by rw [put_h] at hst2; exact hst2))
    · cases hx

theorem regOf_okJ {J : (Nat → Loc) → H → World → Prop} (hJ : KeptJ J) {P : Program} (hnn : NoNum P) {D : FuncId → Array Value → Prop} {call : Call} (hc : CallJ J P D call) (orc : Nat → Option Value) : RegOKJ J P (regOf D (regG P call orc)) := by
  intro ops d s s' h id ρ a w Q hs hQ
  unfold regOf at h
  split at h
  · rename_i s1 lg hg
    split at h
    · rename_i hlg
      simp only [Option.some.injEq] at h; subst h
      cases d with
      | true => cases hg
      | false =>
        refine wp_region ?_
        exact opsG_wpJ hJ hnn hc (List.range ops.size) s s1 lg ρ a w hg hlg hs.st hs.j fun ρ' a' w' h1 h2 => hQ ρ' a' w' ⟨h1, hJ _ _ _ _ _ _ h2 hs.j⟩ h2
    · cases h
  · cases h

theorem funcG_okJ {J : (Nat → Loc) → H → World → Prop} (hJ : KeptJ J) {P : Program} (hnn : NoNum P) {D : FuncId → Array Value → Prop} {call : Call} (hc : CallJ J P D call) {orc : Nat → Option Value} {lf : Nat} {f : FuncId} {args : Array Value} {h h' : H} {v : Value} {lg : List Ob}
    (hx : funcG P call orc lf P.funcs[f]? args h = some (v, h', lg)) (hl : ∀ x, x ∈ lg → Holds D x) (hok : okA h.size args = true) {ρ : Nat → Loc} {w : World} (s : Sim ρ h w) (j : J ρ h w) :
    Calls P f (args.map (ren ρ)) w (fun e w' => ∃ ρ', e = .returned (ren ρ' v) ∧ Sim ρ' h' w' ∧ Step ρ h w ρ' h' w') := by
  cases hfn : P.funcs[f]? with
  | none => rw [hfn] at hx; cases hx
  | some fn =>
    rw [hfn] at hx
    simp only [funcG] at hx
    cases hb : fn.body with
    | none => rw [hb] at hx; cases hx
    | some c =>
      rw [hb] at hx
      simp only at hx
      have back : ∀ (e : Ex) (st : St) (lg1 : List Ob), (e = .normal ∨ e = .ret) → codeG (regG P call orc) lf c (enterX fn args h) = some (e, st, lg1) → (∀ x, x ∈ lg1 → Holds D x) → retX P fn st = some (v, h') →
          Calls P f (args.map (ren ρ)) w (fun e w' => ∃ ρ', e = .returned (ren ρ' v) ∧ Sim ρ' h' w' ∧ Step ρ h w ρ' h' w') := by
        intro e st lg1 hee hcode hlg hr
        unfold retX at hr
        split at hr
        · rename_i v1 hres
          obtain ⟨h1, hr⟩ := cond_some hr
          simp only [Option.some.injEq, Prod.mk.injEq] at hr
          obtain ⟨rfl, rfl⟩ := hr
          refine calls_of_wp hfn hb ?_
          refine code_goodJ (regOf_okJ hJ hnn hc orc) lf c (enterX fn args h) st e (codeG_ok c _ _ _ _ hcode hlg) ρ _ w _ ⟨enter_simS s hok, j⟩ fun ρ' a' w' hs' hst => ?_
          have hr := results_run hs'.st hres
          rcases hee with rfl | rfl
          · exact ⟨hs'.st.defers, ren ρ' v1, hr.1, ρ', rfl, hs'.st.sim, hst⟩
          · exact ⟨hs'.st.defers, ren ρ' v1, hr.1, ρ', rfl, hs'.st.sim, hst⟩
        · cases hr
      unfold endG at hx
      split at hx
      · rename_i s1 lg1 hr
        split at hx
        · rename_i v1 h1 hret
          simp only [Option.some.injEq, Prod.mk.injEq] at hx
          obtain ⟨rfl, rfl, rfl⟩ := hx
          exact back .normal s1 lg1 (.inl rfl) hr hl hret
        · cases hx
      · rename_i s1 lg1 hr
        split at hx
        · rename_i v1 h1 hret
          simp only [Option.some.injEq, Prod.mk.injEq] at hx
          obtain ⟨rfl, rfl, rfl⟩ := hx
          exact back .ret s1 lg1 (.inr rfl) hr hl hret
        · cases hx
      · cases hx

end
end Go.AX
