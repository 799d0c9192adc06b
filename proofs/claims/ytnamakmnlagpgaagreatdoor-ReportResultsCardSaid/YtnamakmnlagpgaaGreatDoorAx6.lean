import Derived.Test.YtnamakmnlagpgaaGreatDoorAx5
import Derived.LoopN
import Derived.Scope
set_option linter.unusedVariables false
set_option linter.unusedSimpArgs false
namespace Go.AX
noncomputable section
open Go

inductive Ex where
  | normal
  | exit (id : Nat)
  | ret

def exOf : Ex → Exit
  | .normal => .normal
  | .exit id => .exit id
  | .ret => .ret

abbrev Reg := Array Oper → Bool → St → Option St

def iterX (f : St → Option (Ex × St)) : Nat → St → Option (Ex × St)
  | 0, _ => none
  | n + 1, s => match f s with
    | some (.normal, s1) => iterX f n s1
    | some (e, s1) => some (e, s1)
    | none => none

def regEx (r : Option St) : Option (Ex × St) :=
  match r with
  | some s1 => some (.normal, s1)
  | none => none

def seqEx (f : St → Option (Ex × St)) (r : Option (Ex × St)) : Option (Ex × St) :=
  match r with
  | some (.normal, s1) => f s1
  | some (e, s1) => some (e, s1)
  | none => none

def blockEx (id : Nat) (r : Option (Ex × St)) : Option (Ex × St) :=
  match r with
  | some (.exit j, s1) => cond (Nat.beq j id) (some (.normal, s1)) (some (.exit j, s1))
  | some (e, s1) => some (e, s1)
  | none => none

def condEx (f g : St → Option (Ex × St)) (s : St) (v : Value) : Option (Ex × St) :=
  match v with
  | .bool t => cond t (f s) (g s)
  | _ => none

def codeX (reg : Reg) (lf : Nat) : Code → St → Option (Ex × St)
  | .skip, s => some (.normal, s)
  | .label _, s => some (.normal, s)
  | .region _ ops d, s => regEx (reg ops d s)
  | .seq a b, s => seqEx (codeX reg lf b) (codeX reg lf a s)
  | .cond c a b, s => cond (opnOK c) (condEx (codeX reg lf a) (codeX reg lf b) s (ev s c)) none
  | .block id b, s => blockEx id (codeX reg lf b s)
  | .loop b, s => iterX (codeX reg lf b) lf s
  | .scope b, s => codeX reg lf b s
  | .exit id, s => some (.exit id, s)
  | .ret, s => some (.ret, s)
  | _, _ => none

def RegOK (P : Program) (reg : Reg) : Prop := ∀ (ops : Array Oper) (d : Bool) (s s' : St), reg ops d s = some s' →
  ∀ (id : Nat) (ρ : Nat → Loc) (a : Act) (w : World) (Q : Exit → Act → World → Prop), SimS ρ s a w →
    (∀ ρ' a' w', SimS ρ' s' a' w' → Step ρ s.h w ρ' s'.h w' → Q .normal a' w') → (Code.region id ops d).wp P Q a w

def Good (P : Program) (c : Code) (f : St → Option (Ex × St)) : Prop := ∀ (s s' : St) (e : Ex), f s = some (e, s') →
  ∀ (ρ : Nat → Loc) (a : Act) (w : World) (Q : Exit → Act → World → Prop), SimS ρ s a w →
    (∀ ρ' a' w', SimS ρ' s' a' w' → Step ρ s.h w ρ' s'.h w' → Q (exOf e) a' w') → c.wp P Q a w

theorem iter_rounds {P : Program} {c : Code} {f : St → Option (Ex × St)} (hf : Good P c f) : ∀ (n : Nat) (s s' : St) (e : Ex), iterX f n s = some (e, s') →
    ∀ (ρ : Nat → Loc) (a : Act) (w : World) (Q : Exit → Act → World → Prop), SimS ρ s a w →
    (∀ ρ' a' w', SimS ρ' s' a' w' → Step ρ s.h w ρ' s'.h w' → Q (exOf e) a' w') → e ≠ .normal ∧ Code.rounds P c Q n a w := by
  intro n
  induction n with
  | zero => intro s s' e h; cases h
  | succ n ih =>
    intro s s' e h ρ a w Q hs hQ
    unfold iterX at h
    rw [rounds_succ]
    split at h
    · rename_i s1 h1
      refine ⟨?_, hf s s1 .normal h1 ρ a w _ hs fun ρ' a' w' hs' hst => ?_⟩
      · -- one more round ends: its exit is no normal one
        exact ((fun hne => hne) (by
          have : ∀ n s s' e, iterX f n s = some (e, s') → e ≠ .normal := by
            intro n
            induction n with
            | zero => intro s s' e h; cases h
            | succ n ih =>
              intro s s' e h
              unfold iterX at h
              split at h
              · exact ih _ _ _ h
              · rename_i e1 s2 hne h2
                simp only [Option.some.injEq, Prod.mk.injEq] at h
                obtain ⟨rfl, rfl⟩ := h
                exact hne
              · cases h
          exact this n s1 s' e h))
      · exact (ih s1 s' e h ρ' a' w' Q hs' fun ρ2 a2 w2 hs2 hst2 => hQ ρ2 a2 w2 hs2 (hst.trans hst2)).2
    · rename_i e1 s1 hne h1
      simp only [Option.some.injEq, Prod.mk.injEq] at h
      obtain ⟨rfl, rfl⟩ := h
      have hnn : e1 ≠ .normal := hne
      refine ⟨hnn, hf s s1 e1 h1 ρ a w _ hs fun ρ' a' w' hs' hst => ?_⟩
      have := hQ ρ' a' w' hs' hst
      cases e1 with
      | normal => exact absurd rfl hnn
      | exit id => exact this
      | ret => exact this
    · cases h

theorem code_good {P : Program} {reg : Reg} (hd : RegOK P reg) (lf : Nat) : ∀ c : Code, Good P c (codeX reg lf c) := by
  intro c
  induction c with
  | skip =>
    intro s s' e h ρ a w Q hs hQ
    simp only [codeX, Option.some.injEq, Prod.mk.injEq] at h
    obtain ⟨rfl, rfl⟩ := h
    exact wp_skip (hQ ρ a w hs (Step.refl _ _ _))
  | label l =>
    intro s s' e h ρ a w Q hs hQ
    simp only [codeX, Option.some.injEq, Prod.mk.injEq] at h
    obtain ⟨rfl, rfl⟩ := h
    exact wp_label (hQ ρ a w hs (Step.refl _ _ _))
  | exit id =>
    intro s s' e h ρ a w Q hs hQ
    simp only [codeX, Option.some.injEq, Prod.mk.injEq] at h
    obtain ⟨rfl, rfl⟩ := h
    exact wp_exit (hQ ρ a w hs (Step.refl _ _ _))
  | ret =>
    intro s s' e h ρ a w Q hs hQ
    simp only [codeX, Option.some.injEq, Prod.mk.injEq] at h
    obtain ⟨rfl, rfl⟩ := h
    exact wp_ret (hQ ρ a w hs (Step.refl _ _ _))
  | goto l => intro s s' e h; cases h
  | refuse why => intro s s' e h; cases h
  | rangeFunc f ps as b _ _ => intro s s' e h; cases h
  | region id ops d =>
    intro s s' e h ρ a w Q hs hQ
    simp only [codeX, regEx] at h
    split at h
    · rename_i s1 h1
      simp only [Option.some.injEq, Prod.mk.injEq] at h
      obtain ⟨rfl, rfl⟩ := h
      exact hd ops d s s1 h1 id ρ a w Q hs hQ
    · cases h
  | seq x y ihx ihy =>
    intro s s' e h ρ a w Q hs hQ
    simp only [codeX, seqEx] at h
    split at h
    · rename_i s1 h1
      refine wp_seq (ihx s s1 .normal h1 ρ a w _ hs fun ρ' a' w' hs' hst => ?_)
      exact ihy s1 s' e h ρ' a' w' Q hs' fun ρ2 a2 w2 hs2 hst2 => hQ ρ2 a2 w2 hs2 (hst.trans hst2)
    · rename_i e1 s1 hne h1
      simp only [Option.some.injEq, Prod.mk.injEq] at h
      obtain ⟨rfl, rfl⟩ := h
      refine wp_seq (ihx s s1 e1 h1 ρ a w _ hs fun ρ' a' w' hs' hst => ?_)
      have := hQ ρ' a' w' hs' hst
      cases e1 with
      | normal => exact absurd rfl hne
      | exit id => exact this
      | ret => exact this
    · cases h
  | cond c x y ihx ihy =>
    intro s s' e h ρ a w Q hs hQ
    simp only [codeX] at h
    obtain ⟨h1, h⟩ := cond_some h
    unfold condEx at h
    split at h
    · rename_i t ht
      have hev : a.eval c = .bool t := by rw [ev_eq hs h1, ht]; simp only [ren]
      refine wp_cond hev ?_
      cases t with
      | true => exact ihx s s' e h ρ a w Q hs hQ
      | false => exact ihy s s' e h ρ a w Q hs hQ
    · cases h
  | block id b ih =>
    intro s s' e h ρ a w Q hs hQ
    simp only [codeX, blockEx] at h
    split at h
    · rename_i j s1 h1
      refine wp_block (ih s s1 (.exit j) h1 ρ a w _ hs fun ρ' a' w' hs' hst => ?_)
      cases hj : Nat.beq j id with
      | true =>
        rw [hj] at h
        simp only [cond_true, Option.some.injEq, Prod.mk.injEq] at h
        obtain ⟨rfl, rfl⟩ := h
        have := nbeq_true hj
        simp only [exOf, Exit.inBlock, this, if_true]
        exact hQ ρ' a' w' hs' hst
      | false =>
        rw [hj] at h
        simp only [cond_false, Option.some.injEq, Prod.mk.injEq] at h
        obtain ⟨rfl, rfl⟩ := h
        have hne : ¬ j = id := fun e => by subst e; rw [Nat.beq_refl] at hj; cases hj
        simp only [exOf, Exit.inBlock, hne, if_false]
        exact hQ ρ' a' w' hs' hst
    · rename_i e1 s1 hne h1
      simp only [Option.some.injEq, Prod.mk.injEq] at h
      obtain ⟨rfl, rfl⟩ := h
      refine wp_block (ih s s1 e1 h1 ρ a w _ hs fun ρ' a' w' hs' hst => ?_)
      have := hQ ρ' a' w' hs' hst
      cases e1 with
      | normal => exact this
      | exit j => exact absurd rfl (hne j)
      | ret => exact this
    · cases h
  | loop b ih =>
    intro s s' e h ρ a w Q hs hQ
    simp only [codeX] at h
    exact wp_loop_rounds lf (iter_rounds ih lf s s' e h ρ a w Q hs hQ).2
  | scope b ih =>
    intro s s' e h ρ a w Q hs hQ
    simp only [codeX] at h
    refine wp_scope_straight (ih s s' e h ρ a w _ hs fun ρ' a' w' hs' hst => ?_)
    have := hQ ρ' a' w' hs' hst
    cases e <;> exact this

/-! ### functions -/
def resultX (P : Program) (s : St) (r : ResultVar) : Option Value :=
  match r with
  | .tmp t => some (tmpv s t)
  | .cell a t => loadX P t (tmpv s a) s.h

def resultsL (P : Program) (s : St) : List ResultVar → Option (List Value)
  | [] => some []
  | r :: l => match resultX P s r with
    | some v => match resultsL P s l with
      | some vs => some (v :: vs)
      | none => none
    | none => none

def resultsX (P : Program) (fn : Func) (s : St) : Option Value :=
  match resultsL P s fn.results.toList with
  | some [v] => some v
  | some vs => some (.tuple vs.toArray)
  | none => none

theorem tmp_eq {ρ : Nat → Loc} {s : St} {a : Act} {w : World} (hs : SimS ρ s a w) (t : Nat) : a.tmps.getD t undef = ren ρ (tmpv s t) :=
  ev_eq (x := .tmp t) hs rfl

def rfun (tmps : Array Value) : ResultVar → Sem Value
  | .tmp t => pure (tmps.getD t undef)
  | .cell a t => do loadVar t (← asAddr (tmps.getD a undef))

theorem results_eq (fn : Func) (tmps : Array Value) : results fn tmps = (do let vs ← fn.results.mapM (rfun tmps); pure (if h : vs.size = 1 then vs[0] else .tuple vs)) := by
  have e : ∀ f : ResultVar → Sem Value, (∀ r, f r = rfun tmps r) → (do let vs ← fn.results.mapM f; pure (if h : vs.size = 1 then vs[0] else .tuple vs) : Sem Value) =
      (do let vs ← fn.results.mapM (rfun tmps); pure (if h : vs.size = 1 then vs[0] else .tuple vs)) := fun f hf => by rw [show f = rfun tmps from funext hf]
  exact e _ fun r => by cases r <;> rfl

theorem resultsL_run {P : Program} {ρ : Nat → Loc} {s : St} {a : Act} {w : World} (hs : SimS ρ s a w) : ∀ (l : List ResultVar) (vs : List Value), resultsL P s l = some vs →
    ((l.mapM (rfun a.tmps)).run P w = .ok (vs.map (ren ρ)) w) ∧ ∀ v, v ∈ vs → ok s.h.size v = true := by
  intro l
  induction l with
  | nil =>
    intro vs h
    simp only [resultsL, Option.some.injEq] at h; subst h
    simp
  | cons r l ih =>
    intro vs h
    unfold resultsL at h
    split at h
    · rename_i v hv
      split at h
      · rename_i vs' hvs
        simp only [Option.some.injEq] at h; subst h
        obtain ⟨ih1, ih2⟩ := ih vs' hvs
        have h1 : ok s.h.size v = true ∧ ((rfun a.tmps r).run P w = .ok (ren ρ v) w) := by
          unfold resultX at hv
          cases r with
          | tmp t =>
            simp only [Option.some.injEq] at hv; subst hv
            exact ⟨tmpv_ok hs.okt t, by simp only [rfun, tmp_eq hs, Sem.run_pure]⟩
          | cell b t =>
            simp only at hv
            obtain ⟨h1, h2⟩ := load_run (P := P) hv hs.sim
            refine ⟨h2, ?_⟩
            simp only [rfun, tmp_eq hs, Sem.run_bind]
            unfold loadX at hv
            split at hv
            · rename_i b' o' hb
              rw [hb] at h1 ⊢
              simp only [ren] at h1 ⊢
              simpa only [asAddr, Sem.run_pure, Result.andThen_ok, Instr.loadAt, Instr.sureAddr, Sem.run_bind] using h1
            · cases hv
        refine ⟨?_, fun u hu => ?_⟩
        · simp only [List.mapM_cons, Sem.run_bind]
          rw [h1.2]
          simp only [Result.andThen_ok, ih1, Sem.run_pure, List.map_cons]
        · rcases List.mem_cons.1 hu with e | e
          · subst e; exact h1.1
          · exact ih2 u e
      · cases h
    · cases h

theorem results_run {P : Program} {ρ : Nat → Loc} {s : St} {a : Act} {w : World} {fn : Func} {v : Value} (hs : SimS ρ s a w) (h : resultsX P fn s = some v) :
    (results fn a.tmps).run P w = .ok (ren ρ v) w ∧ ok s.h.size v = true := by
  unfold resultsX at h
  have key : ∀ vs, resultsL P s fn.results.toList = some vs → (results fn a.tmps).run P w = .ok (if h : (vs.map (ren ρ)).toArray.size = 1 then (vs.map (ren ρ)).toArray[0] else .tuple (vs.map (ren ρ)).toArray) w := by
    intro vs hvs
    obtain ⟨h1, h2⟩ := resultsL_run hs _ vs hvs
    rw [results_eq, Array.mapM_eq_mapM_toList]
    simp only [Sem.run_bind, Sem.run_map]
    rw [h1]
    simp only [Result.andThen_ok, Sem.run_pure]
  split at h
  · rename_i u hl
    simp only [Option.some.injEq] at h; subst h
    rw [key _ hl]
    exact ⟨by simp, (resultsL_run hs _ _ hl).2 u (by simp)⟩
  · rename_i vs hne hl
    simp only [Option.some.injEq] at h; subst h
    rw [key _ hl]
    refine ⟨?_, ?_⟩
    · rw [dif_neg]
      · simp [ren, renArr, renL_eq]
      · simp only [List.size_toArray, List.length_map]
        intro e
        match vs, e with
        | [v], _ => exact hne v rfl
    · simp only [ok, okA, okL_eq]
      exact List.all_eq_true.2 (resultsL_run hs _ _ hl).2
  · cases h

def putAll : List Value → Nat → Tr Value → Tr Value
  | [], _, t => t
  | v :: l, i, t => putAll l (i + 1) (t.set i v)

theorem putAll_get : ∀ (l : List Value) (i : Nat) (t : Tr Value) (j : Nat), (putAll l i t).get j = if i ≤ j ∧ j < i + l.length then l[j - i]? else t.get j
  | [], i, t, j => by simp only [putAll, List.length_nil]; rw [if_neg (by omega)]
  | v :: l, i, t, j => by
    simp only [putAll]
    rw [putAll_get l (i + 1) _ j, Tr.get_set]
    by_cases e : j = i
    · subst e
      rw [if_neg (by omega), if_pos rfl, if_pos (by simp)]; simp
    · by_cases h : i + 1 ≤ j ∧ j < i + 1 + l.length
      · rw [if_pos h, if_pos (by simp; omega), show j - i = (j - (i + 1)) + 1 from by omega]; simp
      · rw [if_neg h, if_neg e, if_neg (by simp; omega)]

def enterX (fn : Func) (args : Array Value) (h : H) : St := { tmps := putAll args.toList 0 .nil, n := args.size + (fn.ntmps - args.size), h := h }

def retX (P : Program) (fn : Func) (s : St) : Option (Value × H) :=
  match resultsX P fn s with
  | some v => cond (ok s.h.size v) (some (v, s.h)) none
  | none => none

def endX (P : Program) (fn : Func) (r : Option (Ex × St)) : Option (Value × H) :=
  match r with
  | some (.normal, s) => retX P fn s
  | some (.ret, s) => retX P fn s
  | _ => none

def okX (r : Option (Value × H)) : Option (Value × H) :=
  match r with
  | some (v, h') => cond (ok h'.size v) (some (v, h')) none
  | none => none

def bodyX (P : Program) (reg : Reg) (lf : Nat) (fn : Option Func) (args : Array Value) (h : H) : Option (Value × H) :=
  match fn with
  | some fn => match fn.body with
    | some c => endX P fn (codeX reg lf c (enterX fn args h))
    | none => none
  | none => none

def callsX (P : Program) (reg : Call → Reg) (ext : FuncId → Option (Array Value → H → Option (Value × H))) (lf : Nat) : Nat → Call
  | 0, _, _, _ => none
  | n + 1, f, args, h => match ext f with
    | some g => okX (g args h)
    | none => bodyX P (reg (callsX P reg ext lf n)) lf P.funcs[f]? args h

def ExtOK (P : Program) (ext : FuncId → Option (Array Value → H → Option (Value × H))) : Prop := ∀ f g, ext f = some g → ∀ args h v h', g args h = some (v, h') → okA h.size args = true →
  ∀ ρ w, Sim ρ h w → Calls P f (args.map (ren ρ)) w (fun e w' => ∃ ρ', e = .returned (ren ρ' v) ∧ Sim ρ' h' w' ∧ Step ρ h w ρ' h' w')

theorem enter_simS {ρ : Nat → Loc} {h : H} {w : World} {fn : Func} {args : Array Value} (s : Sim ρ h w) (hok : okA h.size args = true) :
    SimS ρ (enterX fn args h) { tmps := args.map (ren ρ) ++ Array.replicate (fn.ntmps - (args.map (ren ρ)).size) undef, defers := [] } w := by
  rw [okA_eq] at hok
  have hok := List.all_eq_true.1 hok
  refine ⟨s, rfl, by simp [enterX], fun t ht => ?_, fun t v hv => ?_⟩
  · simp only [enterX] at ht
    unfold tmpv
    simp only [enterX, putAll_get, Nat.zero_le, true_and, Nat.zero_add, Nat.sub_zero, Array.length_toList, Tr.get_nil]
    by_cases hlt : t < args.size
    · rw [if_pos hlt, Array.getElem?_append_left (by simpa using hlt)]
      simp [hlt]
    · rw [if_neg hlt, Array.getElem?_append_right (by simp; omega)]
      simp only [Array.size_map, Array.getElem?_replicate]
      rw [if_pos (by omega)]
      exact congrArg some (ren_undef ρ).symm
  · simp only [enterX, putAll_get, Nat.zero_le, true_and, Nat.zero_add, Nat.sub_zero, Array.length_toList, Tr.get_nil] at hv
    split at hv
    · rename_i hlt
      exact ⟨by simp only [enterX]; omega, hok v (List.mem_of_getElem? hv)⟩
    · cases hv

theorem calls_ok {P : Program} (hnn : NoNum P) {reg : Call → Reg} (hd : ∀ call, CallOK P call → RegOK P (reg call)) {ext : FuncId → Option (Array Value → H → Option (Value × H))} (he : ExtOK P ext) (lf : Nat) : ∀ n, CallOK P (callsX P reg ext lf n) := by
  intro n
  induction n with
  | zero => exact ⟨hnn, fun f args h v h' hx => by cases hx⟩
  | succ n ih =>
    refine ⟨hnn, ?_⟩
    intro f args h v h' hx hok
    unfold callsX at hx
    split at hx
    · rename_i g hg
      unfold okX at hx
      split at hx
      · rename_i v1 h1 hv
        obtain ⟨h2, h3⟩ := cond_some hx
        simp only [Option.some.injEq, Prod.mk.injEq] at h3
        obtain ⟨rfl, rfl⟩ := h3
        exact ⟨h2, he f g hg args h v1 h1 hv hok⟩
      · cases hx
    · unfold bodyX at hx
      split at hx
      · rename_i fn hf
        split at hx
        · rename_i c hb
          have main : ∀ (e : Ex) (s : St), (e = .normal ∨ e = .ret) → codeX (reg (callsX P reg ext lf n)) lf c (enterX fn args h) = some (e, s) → resultsX P fn s = some v →
              (∀ ρ w, Sim ρ h w → Calls P f (args.map (ren ρ)) w (fun e w' => ∃ ρ', e = .returned (ren ρ' v) ∧ Sim ρ' s.h w' ∧ Step ρ h w ρ' s.h w')) := by
            intro e s hee hcode hres ρ w hsim
            refine calls_of_wp hf hb ?_
            refine code_good (hd _ ih) lf c (enterX fn args h) s e hcode ρ _ w _ (enter_simS hsim hok) fun ρ' a' w' hs' hst => ?_
            have hr := results_run hs' hres
            rcases hee with rfl | rfl
            · exact ⟨hs'.defers, ren ρ' v, hr.1, ρ', rfl, hs'.sim, hst⟩
            · exact ⟨hs'.defers, ren ρ' v, hr.1, ρ', rfl, hs'.sim, hst⟩
          have back : ∀ (e : Ex) (s : St), (e = .normal ∨ e = .ret) → codeX (reg (callsX P reg ext lf n)) lf c (enterX fn args h) = some (e, s) → retX P fn s = some (v, h') →
              ok h'.size v = true ∧ (∀ ρ w, Sim ρ h w → Calls P f (args.map (ren ρ)) w (fun e w' => ∃ ρ', e = .returned (ren ρ' v) ∧ Sim ρ' h' w' ∧ Step ρ h w ρ' h' w')) := by
            intro e s hee hcode hr
            unfold retX at hr
            split at hr
            · rename_i v1 hres
              obtain ⟨h1, hr⟩ := cond_some hr
              simp only [Option.some.injEq, Prod.mk.injEq] at hr
              obtain ⟨rfl, rfl⟩ := hr
              exact ⟨h1, main e s hee hcode hres⟩
            · cases hr
          unfold endX at hx
          split at hx
          · rename_i s hcode
            exact back .normal s (.inl rfl) hcode hx
          · rename_i s hcode
            exact back .ret s (.inr rfl) hcode hx
          · cases hx
        · cases hx
      · cases hx

end
end Go.AX
