import Derived.Test.YtnamakmnlagpgaaGreatDoorAx10
set_option linter.unusedVariables false
set_option linter.unusedSimpArgs false
namespace Go.AX
noncomputable section
open Go

section
variable {P : Program} {call : Call} {ops : Array Oper} {T : Tr Nat} {s0 s' : St} {es : List Ent}

def LOf (listed : Array Bool) (j : Nat) : Prop := listed.getD j false = true

theorem take_drop_stages : ∀ (l : List Ent) (p : Nat), stagesOf (l.take p) ++ stagesOf (l.drop p) = stagesOf l
  | [], p => by simp [stagesOf]
  | x :: l, 0 => by simp [stagesOf]
  | x :: l, p + 1 => by
    simp only [List.take_succ_cons, List.drop_succ_cons, stagesOf]
    split
    · rw [List.cons_append, take_drop_stages l p]
    · exact take_drop_stages l p
theorem stages_mem : ∀ (l : List Ent) (x : Nat × H), x ∈ stagesOf l → ∃ e, e ∈ l ∧ e.c = 3 ∧ x = (e.j, e.h)
  | [], x, h => by simp [stagesOf] at h
  | y :: l, x, h => by
    simp only [stagesOf] at h
    split at h
    · rename_i h3
      rcases List.mem_cons.1 h with rfl | h
      · exact ⟨y, by simp, h3, rfl⟩
      · obtain ⟨e, h1, h2⟩ := stages_mem l x h
        exact ⟨e, by simp [h1], h2⟩
    · obtain ⟨e, h1, h2⟩ := stages_mem l x h
      exact ⟨e, by simp [h1], h2⟩

/-- one operation that is ready -/
theorem one_step (C : Cert P call ops T s0 s' es) (hc : CallOK P call) (h0 : ∀ t v, s0.tmps.get t = some v → t < s0.n ∧ ok s0.h.size v = true) {ρ0 : Nat → Loc} {w0 : World} {p : Nat} {L : Nat → Prop} {ρ : Nat → Loc} {a : Act} {w : World}
    (I : TmOK ops es s0 L ρ a) (J : HpOK es s0 s' p L ρ0 w0 ρ w) {j : Nat} (hj : j < ops.size) (hn : ¬ L j) (hu : Under ops L j) {Q : Exit → Act → World → Prop} {K : Act → World → Prop}
    (hK : ∀ p' ρ' a' w', TmOK ops es s0 (Add L j) ρ' a' → HpOK es s0 s' p' (Add L j) ρ0 w0 ρ' w' → K a' w') : wpOp P ops Q j K a w := by
  obtain ⟨i, e, he, rfl⟩ := C.has hj
  have E := C.ent he
  have hev : ∀ x, x ∈ e.o.op.operands → opnOK x = true → a.eval x = ren ρ (ev e.s x) := fun x hx hok => I.hev C h0 J.c.sim.glob he hn hu hx hok
  have hput := I.put C he hu
  unfold wpOp
  rw [E.op]
  simp only
  rw [I.want C h0 he hn hu]
  rcases E.how with ⟨hw, hc0, hv, hh⟩ | ⟨hw, hop, h5⟩
  · rw [hw]
    simp only [Bool.false_eq_true, if_false]
    rw [hv, ren_undef] at hput
    exact hK p ρ _ w hput (J.light C he (by omega))
  · rw [hw]
    simp only [if_true]
    refine .inl ?_
    have hev' : ∀ x, x ∈ e.o.op.operands → a.eval x = ren ρ (ev e.s x) := fun x hx => hev x hx (hop x hx)
    unfold Oper.wp
    rcases h5 with ⟨hc0, hh, hv⟩ | ⟨hc1, hh, t, x, hx⟩ | ⟨hc2, mk, hv, hok, hv2, hh⟩ | ⟨hc3, hk3, hv⟩
    · have hr : (execOp a.eval e.o).run P w = .ok (.value (ren ρ e.v)) w := hv.elim (fun hv => quickX_run hv hev' w) (fun hv => pureX_run hv hev' w)
      rw [hr]
      simp only [Oper.upon]
      exact hK p ρ _ w hput (J.light C he (by omega))
    · have hld := (C.chk' he).2.2 hc1
      rw [← take_drop_stages es p] at hld
      have hv : loadOp P (ev e.s) e.o (lastH s0.h (stagesOf (es.take p))) = some e.v := by
        refine chkL_ok _ _ _ hld (fun y hy => ?_) (fun y hy => ?_)
        · obtain ⟨e', h1, h2, rfl⟩ := stages_mem _ y hy
          obtain ⟨k, hk⟩ := at_of_mem h1
          rw [List.getElem?_drop] at hk
          cases hb : bit (ancOf T e.j) e'.j with
          | false => rfl
          | true => exact absurd (C.plan.sound L I.cl e.j hu _ hb) (J.hv _ e' hk (by omega) h2)
        · obtain ⟨e', h1, h2, rfl⟩ := stages_mem _ y hy
          obtain ⟨k, hk⟩ := at_of_mem h1
          rw [List.getElem?_take] at hk
          split at hk
          · rename_i hlt
            cases hb : bit (ancOf T e'.j) e.j with
            | false => rfl
            | true =>
              have hL := J.done k e' hk hlt (by omega)
              exact absurd (C.plan.sound L I.cl e'.j (fun o ho e3 he3 hb3 => I.cl e'.j o ho hL e3 he3 hb3) _ hb) hn
          · cases hk
      rw [← J.cur] at hv
      unfold loadOp at hv
      rw [hx] at hv
      simp only at hv
      obtain ⟨h1, _⟩ := load_run (P := P) hv J.c.sim
      have hr : (execOp a.eval e.o).run P w = .ok (.value (ren ρ e.v)) w := by
        simp only [execOp, hx, Sem.run_bind, hev' x (by rw [hx]; simp [Op.operands]), h1, Result.andThen_ok, Sem.run_pure]
      rw [hr]
      simp only [Oper.upon]
      exact hK p ρ _ w hput (J.light C he (by omega))
    · obtain ⟨el, hr⟩ := alloc_run (ρ := ρ) (cev := a.eval) hv hev' w e.s.h.size
      simp only at hr
      rw [hr]
      simp only [Oper.upon]
      obtain ⟨hA, J'⟩ := HpOK.alloc C I.cl J he hc2 hn el
      have hput' := (I.ren C h0 hA).put C he hu
      rw [hv2] at hput'
      exact hK p _ _ _ hput' J'
    · have hpi : p ≤ i := by
        rcases Nat.lt_or_ge i p with h | h
        · exact absurd (J.done i e he h (by omega)) hn
        · exact h
      have hall : ∀ (k : Nat) e', es[k]? = some e' → k < i → L e'.j := fun k e' hk hlt => C.plan.sound L I.cl e.j hu _ (C.heavy he hk3 hk hlt)
      have hq := J.c.upto C i hpi (Nat.le_of_lt (lt_of_get he)) fun k e' hpk hki hk => by
        have hL := hall k e' hk hki
        refine ⟨?_, fun _ => hL⟩
        have : e'.c ≠ 3 := fun h3 => J.hv k e' hk hpk h3 hL
        rcases (C.ent hk).how with ⟨_, h, _⟩ | ⟨_, _, h | h | h | h⟩ <;> omega
      have hsim := hq.sim
      rw [sg_at es i e he] at hsim
      have fin : ∀ ρ1 w1, Sim ρ1 e.h w1 → Step ρ e.s.h w ρ1 e.h w1 → K (a.put e.o.dst (ren ρ1 e.v)) w1 := fun ρ1 w1 hs1 hst => by
        obtain ⟨ρ2, h12, hV, J'⟩ := HpOK.heavy C I.cl J he hc3 hn hpi hq hall hs1 hst
        have hput' := (I.ren C h0 hV).put C he hu
        rw [ren_agree h12 _ E.okv] at hput'
        exact hK _ _ _ _ hput' J'
      unfold stepX at hv
      split at hv
      · rename_i u h2 ho
        simp only [Option.some.injEq, Prod.mk.injEq] at hv
        obtain ⟨rfl, rfl⟩ := hv
        rcases opX_run hc.1 hsim ho (fun x hx hok => hev x hx hok) with ⟨v', h3, e1, hok, nx, w', ρ', hr, hnx, hsim', hst⟩ | ⟨f, args, e1, _⟩
        · simp only [R.val.injEq] at e1
          obtain ⟨e1, e2⟩ := e1
          subst e1 e2
          rw [hr]
          have hgo := fin ρ' w' hsim' hst
          cases nx with
          | value u' =>
            simp only [NextIs] at hnx
            subst hnx
            simpa only [Oper.upon] using hgo
          | skip =>
            simp only [NextIs] at hnx
            rw [hnx] at hgo
            exact hgo
          | _ => exact hnx.elim
        · cases e1
      · rename_i f args ho
        rcases opX_run hc.1 hsim ho (fun x hx hok => hev x hx hok) with ⟨v', h3, e1, _⟩ | ⟨f', args', e1, hok, hr⟩
        · cases e1
        · simp only [R.call.injEq] at e1
          obtain ⟨rfl, rfl⟩ := e1
          rw [hr]
          simp only [Oper.upon]
          obtain ⟨hv', hcalls⟩ := hc.2 _ _ _ _ _ hv hok
          refine (hcalls ρ w hsim).mono fun e1 w' he1 => ?_
          obtain ⟨ρ', rfl, hsim', hst⟩ := he1
          exact fin ρ' w' hsim' hst
      · cases hv

theorem lof_set {listed : Array Bool} {j : Nat} (hj : j < listed.size) : LOf (listed.setIfInBounds j true) = Add (LOf listed) j := by
  funext i
  unfold LOf Add
  simp only [Array.getD_eq_getD_getElem?, Array.getElem?_setIfInBounds, eq_iff_iff]
  by_cases e : j = i
  · subst e
    rw [if_pos rfl, if_pos hj]
    simp
  · rw [if_neg e]
    constructor
    · exact .inl
    · rintro (h | h)
      · exact h
      · exact absurd h.symm e

theorem count_set (l : List Bool) : ∀ (j : Nat), l[j]? = some false → (l.set j true).count false + 1 = l.count false := by
  induction l with
  | nil => intro j h; simp at h
  | cons b l ih =>
    intro j h
    cases j with
    | zero => simp at h; subst h; simp
    | succ j =>
      have := ih j (by simpa using h)
      simp only [List.set_cons_succ, List.count_cons]
      omega

theorem any_ok (C : Cert P call ops T s0 s' es) (hc : CallOK P call) (h0 : ∀ t v, s0.tmps.get t = some v → t < s0.n ∧ ok s0.h.size v = true) {ρ0 : Nat → Loc} {w0 : World} {Q : Exit → Act → World → Prop}
    (hQ : ∀ ρ' a' w', SimS ρ' s' a' w' → Step ρ0 s0.h w0 ρ' s'.h w' → Q .normal a' w') : ∀ (fuel : Nat) (listed : Array Bool) (p : Nat) (ρ : Nat → Loc) (a : Act) (w : World),
    listed.size = ops.size → listed.toList.count false ≤ fuel → TmOK ops es s0 (LOf listed) ρ a → HpOK es s0 s' p (LOf listed) ρ0 w0 ρ w → wpAny P .any ops Q fuel listed a w := by
  have done : ∀ (listed : Array Bool) (p : Nat) (ρ : Nat → Loc) (a : Act) (w : World), listed.size = ops.size → TmOK ops es s0 (LOf listed) ρ a → HpOK es s0 s' p (LOf listed) ρ0 w0 ρ w → Region.ready .any ops listed = [] → Q .normal a w := by
    intro listed p ρ a w hsz I J hr
    have hall : ∀ (i : Nat) e, es[i]? = some e → LOf listed e.j := by
      intro i
      induction i using Nat.strongRecOn with
      | ind i ih =>
        intro e he
        apply Classical.byContradiction
        intro hn
        have hjlt : e.j < ops.size := (Array.getElem?_eq_some_iff.1 (C.ent he).op).1
        have : e.j ∈ Region.ready .any ops listed := by
          rw [mem_ready]
          refine ⟨?_, e.o, (C.ent he).op, fun ed hed hb => ?_⟩
          · unfold LOf at hn
            simp only [Array.getD_eq_getD_getElem?, Array.getElem?_eq_getElem (by omega : e.j < listed.size), Option.getD_some] at hn ⊢
            simpa using hn
          · obtain ⟨k, e', hk, hk', hk2⟩ := C.lin he (C.plan.edge e.j e.o (C.ent he).op ed hed hb)
            have := ih k hk e' hk'
            rw [hk2] at this
            exact this
        rw [hr] at this
        cases this
    have hc' : ∀ (k : Nat) e', es[k]? = some e' → p ≤ k → e'.c ≤ 2 := fun k e' hk hpk => by
      have : e'.c ≠ 3 := fun h3 => J.hv k e' hk hpk h3 (hall k e' hk)
      rcases (C.ent hk).how with ⟨_, h, _⟩ | ⟨_, _, h | h | h | h⟩ <;> omega
    have hend := J.c.upto C es.length J.ple (Nat.le_refl _) fun k e' hpk _ hk => ⟨hc' k e' hk hpk, fun _ => hall k e' hk⟩
    have hse := sg_end (s' := s') es
    have hsim := hend.sim
    have hstep := hend.step
    rw [hse] at hsim hstep
    have hn := C.n es.length (Nat.le_refl _)
    rw [hse] at hn
    refine hQ ρ a w ⟨hsim, I.defers, by rw [I.size, hn], fun t ht => ?_, fun t v hg => ?_⟩ hstep
    · rw [hn] at ht
      by_cases hw : ∃ (k : Nat) (e' : Ent), es[k]? = some e' ∧ e'.o.dst = some t
      · obtain ⟨k, e', hk, hd⟩ := hw
        have := C.tW ht hk hd es.length (lt_of_get hk) (Nat.le_refl _)
        rw [hse] at this
        rw [this]
        exact I.tw t ht k e' hk hd (hall k e' hk)
      · have hw : ∀ (k : Nat) (e' : Ent), es[k]? = some e' → e'.o.dst ≠ some t := fun k e' hk hd => hw ⟨k, e', hk, hd⟩
        have := C.tS ht es.length (Nat.le_refl _) fun k e' _ hk => hw k e' hk
        rw [hse] at this
        rw [this]
        exact I.ts t ht fun k e' hk hd => absurd hd (hw k e' hk)
    · have := C.okt h0 es.length (Nat.le_refl _) t v (by rw [hse]; exact hg)
      rw [hse] at this
      rw [hn]
      exact this
  intro fuel
  induction fuel with
  | zero =>
    intro listed p ρ a w hsz hcnt I J
    have hr : Region.ready .any ops listed = [] := by
      apply List.eq_nil_iff_forall_not_mem.2
      intro j hj
      rw [mem_ready] at hj
      have h1 : listed.getD j true = false := hj.1
      have hmem : false ∈ listed.toList := by
        rw [Array.getD_eq_getD_getElem?] at h1
        cases hg : listed[j]? with
        | none => rw [hg] at h1; cases h1
        | some b =>
          rw [hg] at h1
          simp only [Option.getD_some] at h1
          subst h1
          have := Array.mem_of_getElem? hg
          simpa using this
      have := List.count_pos_iff.2 hmem
      omega
    exact ⟨hr, done listed p ρ a w hsz I J hr⟩
  | succ fuel ih =>
    intro listed p ρ a w hsz hcnt I J
    refine ⟨done listed p ρ a w hsz I J, fun j hj => ?_⟩
    rw [mem_ready] at hj
    obtain ⟨h1, o, ho, h2⟩ := hj
    have hjlt : j < ops.size := (Array.getElem?_eq_some_iff.1 ho).1
    have hjl : j < listed.size := by omega
    have hgj : listed[j]? = some false := by
      rw [Array.getD_eq_getD_getElem?, Array.getElem?_eq_getElem hjl, Option.getD_some] at h1
      rw [Array.getElem?_eq_getElem hjl, h1]
    refine one_step C hc h0 I J hjlt (fun h => ?_) (fun o' ho' e he hb => ?_) fun p' ρ' a' w' I' J' => ?_
    · unfold LOf at h
      rw [Array.getD_eq_getD_getElem?, hgj] at h
      cases h
    · rw [ho] at ho'
      have := Option.some.inj ho'
      subst this
      exact h2 e he hb
    · refine ih (listed.setIfInBounds j true) p' ρ' a' w' (by simpa using hsz) ?_ ?_ ?_
      · have := count_set listed.toList j (by simpa using hgj)
        have e2 : (listed.setIfInBounds j true).toList = listed.toList.set j true := by simp
        rw [e2]; omega
      · rw [lof_set hjl]; exact I'
      · rw [lof_set hjl]; exact J'

theorem draw_ok {P : Program} : DrawOK P (fun call ops s => drawX P call ops s) := by
  intro call hc ops s s' h id ρ a w Q hs hQ
  obtain ⟨hm, T, es, C⟩ := drawX_ok h
  refine wp_region_any hm ?_
  have hL : LOf (Array.replicate ops.size false) = fun _ => False := by
    funext i
    unfold LOf
    simp only [Array.getD_eq_getD_getElem?, Array.getElem?_replicate, eq_iff_iff, iff_false]
    split <;> simp
  refine any_ok C hc hs.okt (ρ0 := ρ) (w0 := w) hQ ops.size _ 0 ρ a _ (by simp) ?_ ?_ ?_
  · simp [List.count_replicate]
  · rw [hL]
    exact ⟨fun _ _ _ h => h.elim, hs.defers, hs.size, fun _ _ _ _ _ _ h => h.elim, fun t ht _ => hs.tm t ht⟩
  · rw [hL]
    refine ⟨Nat.zero_le _, fun _ _ _ h => absurd h (Nat.not_lt_zero _), fun _ _ _ _ _ h => h, by rw [C.zero]; rfl, ?_, ?_, ?_, ?_⟩
    · rw [C.zero]; exact hs.sim.drawn _
    · exact fun _ _ _ _ _ h => h.elim
    · exact fun _ _ _ _ _ _ _ _ _ _ h => h.elim
    · rw [C.zero]; exact Step.drawn _ _ _ _
end

end
end Go.AX

namespace Go.AX
noncomputable section
open Go Go.RowKit

/-! ### a start: rows of cells at package variables -/
def fillH : List (Nat × List Value) → Tr Blk → Tr Blk
  | [], t => t
  | (i, cs) :: l, t => fillH l (t.set i (.cells cs 0 i 0 0))
def startH (l : List (Nat × List Value)) : H := { blks := fillH l .nil, grps := .nil, size := roB }

theorem fillH_get : ∀ (l : List (Nat × List Value)) (t : Tr Blk) (b : Nat) (k : Blk), (fillH l t).get b = some k → (∃ cs, (b, cs) ∈ l ∧ k = .cells cs 0 b 0 0) ∨ t.get b = some k
  | [], t, b, k, h => .inr h
  | (i, cs) :: l, t, b, k, h => by
    simp only [fillH] at h
    rcases fillH_get l _ b k h with ⟨cs', h1, h2⟩ | h1
    · exact .inl ⟨cs', by simp [h1], h2⟩
    · rw [Tr.get_set] at h1
      split at h1
      · rename_i e; subst e
        exact .inl ⟨cs, by simp, (Option.some.inj h1).symm⟩
      · exact .inr h1

theorem startH_get {l : List (Nat × List Value)} {b : Nat} {k : Blk} (h : (startH l).blks.get b = some k) : ∃ cs, (b, cs) ∈ l ∧ k = .cells cs 0 b 0 0 := by
  rcases fillH_get l .nil b k h with h | h
  · exact h
  · rw [Tr.get_nil] at h; cases h

theorem start_sim {l : List (Nat × List Value)} {ρ : Nat → Loc} {w : World} (hρ : ∀ g, g < 1000 → ρ g = ⟨g, 0, 0⟩)
    (hl : ∀ g cs, (g, cs) ∈ l → g < 1000 ∧ (∀ v, v ∈ cs → ok roB v = true) ∧ ∃ C el fz, w.heap[g]? = some (.cells C el fz) ∧ (∀ (i : Nat) v, cs[i]? = some v → C[i]? = some (ren ρ v)) ∧ FzOK C.size fz) :
    Sim ρ (startH l) w := {
  lt := fun b k h => by
    obtain ⟨cs, h1, _⟩ := startH_get h
    have := (hl b cs h1).1
    show b < roB
    unfold roB; omega
  obj := fun b k h => by
    obtain ⟨cs, h1, rfl⟩ := startH_get h
    obtain ⟨h2, h3, C, el, fz, h4, h5, h6⟩ := hl b cs h1
    rw [hρ b h2]
    refine ⟨h3, C, el, fz, h4, fun i v hi => ?_, h6, by simp⟩
    simpa using h5 i v hi
  sep := fun b1 b2 k1 k2 h1 h2 hne he => by
    obtain ⟨cs, h3, _⟩ := startH_get h1
    obtain ⟨cs', h4, _⟩ := startH_get h2
    rw [hρ b1 (hl _ _ h3).1, hρ b2 (hl _ _ h4).1] at he
    exact absurd he hne
  grp := fun b k h => by
    obtain ⟨cs, h1, rfl⟩ := startH_get h
    have hn : (startH l).grps.get b = none := Tr.get_nil _
    simp only [GrpOK, hn]
  gsz := fun g gr h => by
    have hn : (startH l).grps.get g = none := Tr.get_nil _
    rw [hn] at h; cases h
  glob := hρ
  big := Nat.le_refl _ }

theorem Step.below {ρ ρ' : Nat → Loc} {h h' : H} {w w' : World} (st : Step ρ h w ρ' h' w') (hno : ∀ b k, h.blks.get b = some k → b < roB) : Below w.heap.size w w' :=
  ⟨st.os, st.tape, st.output, st.hsize, fun B hB => st.frame B hB fun b k hr hb => absurd (hno b k hb) (by omega)⟩

theorem start_below {l : List (Nat × List Value)} {ρ ρ' : Nat → Loc} {h' : H} {w w' : World} (st : Step ρ (startH l) w ρ' h' w') (hl : ∀ g cs, (g, cs) ∈ l → g < 1000) : Below w.heap.size w w' :=
  st.below fun b k h => by
    obtain ⟨cs, h1, _⟩ := startH_get h
    have := hl b cs h1
    unfold roB; omega

theorem below_sim {ρ : Nat → Loc} {h : H} {w w' : World} (s : Sim ρ h w) (b : Below w.heap.size w w') : Sim ρ h w' ∧ Step ρ h w ρ h w' := by
  refine ⟨⟨s.lt, fun x k hx => (s.obj x k hx).mono (Agree.refl _ _) (Nat.le_refl _) (fun o ho => ?_), s.sep, s.grp, s.gsz, s.glob, s.big⟩, ⟨Agree.refl _ _, Nat.le_refl _, b.os, b.tape, b.output, b.size, fun B hB _ => b.block B hB, fun _ _ _ _ h => h⟩⟩
  rw [b.block _ (s.block_lt hx)]
  exact ho

end
end Go.AX

namespace Go.AX
noncomputable section
open Go

/-! ### the same run, without forcing: for numbers and texts that are not known -/
def pureValS (P : Program) (tm : Operand → Value) (o : Oper) (h : H) : Option R :=
  match pureX P tm o with
  | some v => cond (ok h.size v) (some (.val v h)) none
  | none => none

def opXS (P : Program) (tm : Operand → Value) (o : Oper) (h : H) : Option R :=
  cond (o.op.operands.all opnOK)
    (match kind P o.op with
     | 0 => pureValS P tm o h
     | 1 => match loadOp P tm o h with
       | some v => some (.val v h)
       | none => none
     | 2 => match allocX P tm o with
       | some (cs, mk) => cond (okL h.size cs) (cond (ok (h.size + 1) (mk h.size)) (some (.val (mk h.size) (h.newCells cs 0 0))) none) none
       | none => none
     | _ => match callX P tm o with
       | some (f, args) => cond (goFn P f) (cond (okA h.size args) (some (.call f args)) none) (pureValS P tm o h)
       | none => match heavyX P tm o h with
         | some (v, h') => cond (ok h'.size v) (some (.val v h')) none
         | none => pureValS P tm o h) none

theorem pureValS_run {P : Program} {ρ : Nat → Loc} {tm cev : Operand → Value} {o : Oper} {h : H} {w : World} {r : R} (s : Sim ρ h w) (hx : pureValS P tm o h = some r)
    (hev : ∀ x, x ∈ o.op.operands → cev x = ren ρ (tm x)) : ∃ v, r = .val v h ∧ ok h.size v = true ∧ Res P ρ h w ((execOp cev o).run P w) v h := by
  unfold pureValS at hx
  split at hx
  · rename_i v hv
    obtain ⟨h1, h2⟩ := cond_some hx
    simp only [Option.some.injEq] at h2; subst h2
    exact ⟨v, rfl, h1, .value (ren ρ v), w, ρ, pureX_run hv hev w, rfl, s, Step.refl _ _ _⟩
  · cases hx

theorem opXS_run {P : Program} (hnn : NoNum P) {ρ : Nat → Loc} {tm cev : Operand → Value} {o : Oper} {h : H} {w : World} {r : R} (s : Sim ρ h w) (hx : opXS P tm o h = some r)
    (hev : ∀ x, x ∈ o.op.operands → opnOK x = true → cev x = ren ρ (tm x)) :
    (∃ v h', r = .val v h' ∧ ok h'.size v = true ∧ Res P ρ h w ((execOp cev o).run P w) v h') ∨
    (∃ f args, r = .call f args ∧ okA h.size args = true ∧ (execOp cev o).run P w = .ok (.enter f (args.map (ren ρ))) w) := by
  unfold opXS at hx
  obtain ⟨hop, hx⟩ := cond_some hx
  have hev : ∀ x, x ∈ o.op.operands → cev x = ren ρ (tm x) := fun x hx => hev x hx (Array.all_eq_true_iff_forall_mem.1 hop x hx)
  have hpv : ∀ r, pureValS P tm o h = some r → (∃ v h', r = .val v h' ∧ ok h'.size v = true ∧ Res P ρ h w ((execOp cev o).run P w) v h') := fun r hr => by
    obtain ⟨v, h1, h2, h3⟩ := pureValS_run s hr hev
    exact ⟨v, h, h1, h2, h3⟩
  split at hx
  · exact .inl (hpv r hx)
  · split at hx
    · rename_i v hv
      simp only [Option.some.injEq] at hx; subst hx
      unfold loadOp at hv
      split at hv
      · rename_i t a ho
        obtain ⟨h1, h2⟩ := load_run (P := P) hv s
        refine .inl ⟨v, h, rfl, h2, ?_⟩
        rw [ho] at hev
        simp only [execOp, ho, Sem.run_bind, hev a (by simp [Op.operands])]
        exact Res.ofSame s h1
      · cases hv
    · cases hx
  · split at hx
    · rename_i cs mk ha
      obtain ⟨h1, hx⟩ := cond_some hx
      obtain ⟨h2, hx⟩ := cond_some hx
      simp only [Option.some.injEq] at hx; subst hx
      exact .inl ⟨_, _, rfl, h2, row_done s (alloc_run ha hev) h1⟩
    · cases hx
  · split at hx
    · rename_i f args hc
      cases hg : goFn P f with
      | true =>
        rw [hg] at hx
        simp only [cond_true] at hx
        obtain ⟨h1, hx⟩ := cond_some hx
        simp only [Option.some.injEq] at hx; subst hx
        exact .inr ⟨f, args, rfl, h1, call_run hnn hc hg hev w⟩
      | false =>
        rw [hg] at hx
        simp only [cond_false] at hx
        exact .inl (hpv r hx)
    · split at hx
      · rename_i v h' hh
        obtain ⟨h1, hx⟩ := cond_some hx
        simp only [Option.some.injEq] at hx; subst hx
        exact .inl ⟨v, h', rfl, h1, heavy_run s hh hev⟩
      · exact .inl (hpv r hx)

def stepXS (P : Program) (call : Call) (s : St) (o : Oper) : Option (Value × H) :=
  match opXS P (ev s) o s.h with
  | some (.val v h) => some (v, h)
  | some (.call f args) => call f args s.h
  | none => none

/-- what one operation does, in the walk's words -/
theorem stepS_wp {P : Program} {call : Call} (hc : CallOK P call) {ρ : Nat → Loc} {s : St} {a : Act} {w : World} {o : Oper} {v : Value} {h' : H} (hs : SimS ρ s a w) (hx : stepXS P call s o = some (v, h'))
    {next : Act → World → Prop} {Q : Exit → Act → World → Prop} (hnext : ∀ ρ' w', SimS ρ' (s.put h' o.dst v) (a.put o.dst (ren ρ' v)) w' → Step ρ s.h w ρ' h' w' → next (a.put o.dst (ren ρ' v)) w') :
    o.wp P a w next Q := by
  unfold stepXS at hx
  unfold Oper.wp
  split at hx
  · rename_i u h2 ho
    simp only [Option.some.injEq, Prod.mk.injEq] at hx
    obtain ⟨rfl, rfl⟩ := hx
    rcases opXS_run hc.1 hs.sim ho (fun x _ hok => ev_eq hs hok) with ⟨v', h3, e, hok, nx, w', ρ', hr, hn, hsim, hst⟩ | ⟨f, args, e, _⟩
    · simp only [R.val.injEq] at e
      obtain ⟨rfl, rfl⟩ := e
      rw [hr]
      have hgo := hnext ρ' w' (put_simS hs hsim hst hok _) hst
      cases nx with
      | value u' =>
        simp only [NextIs] at hn
        subst hn
        simpa only [Oper.upon] using hgo
      | skip =>
        simp only [NextIs] at hn
        rw [hn] at hgo
        exact hgo
      | _ => exact hn.elim
    · cases e
  · rename_i f args ho
    rcases opXS_run hc.1 hs.sim ho (fun x _ hok => ev_eq hs hok) with ⟨v', h3, e, _⟩ | ⟨f', args', e, hok, hr⟩
    · cases e
    · simp only [R.call.injEq] at e
      obtain ⟨rfl, rfl⟩ := e
      rw [hr]
      simp only [Oper.upon]
      obtain ⟨hv, hcalls⟩ := hc.2 _ _ _ _ _ hx hok
      refine (hcalls ρ w hs.sim).mono fun e w' he => ?_
      obtain ⟨ρ', rfl, hsim, hst⟩ := he
      exact hnext ρ' w' (put_simS hs hsim hst hv _) hst
  · cases hx

def opsS (P : Program) (call : Call) (ops : Array Oper) : List Nat → St → Option St
  | [], s => some s
  | i :: l, s => match ops[i]? with
    | some o => cond (wantX ops s o)
      (match stepXS P call s o with
         | some (v, h) => opsS P call ops l (s.put h o.dst v)
         | none => none)
      (opsS P call ops l (s.put s.h o.dst undefV))
    | none => none

theorem opsS_wp {P : Program} {call : Call} (hc : CallOK P call) {ops : Array Oper} {Q : Exit → Act → World → Prop} : ∀ (l : List Nat) (s s' : St) (ρ : Nat → Loc) (a : Act) (w : World), opsS P call ops l s = some s' → SimS ρ s a w →
    (∀ ρ' a' w', SimS ρ' s' a' w' → Step ρ s.h w ρ' s'.h w' → Q .normal a' w') → wpOps P ops Q l a w := by
  intro l
  induction l with
  | nil =>
    intro s s' ρ a w hx hs hQ
    simp only [opsS, Option.some.injEq] at hx; subst hx
    exact hQ ρ a w hs (Step.refl _ _ _)
  | cons i l ih =>
    intro s s' ρ a w hx hs hQ
    unfold opsS at hx
    simp only [wpOps]
    split at hx
    · rename_i o ho
      rw [ho]
      simp only
      rw [want_eq hs]
      cases hw : wantX ops s o with
      | true =>
        rw [hw] at hx
        simp only [cond_true] at hx
        simp only [if_true]
        split at hx
        · rename_i v h' hst
          refine .inl (stepS_wp hc hs hst fun ρ' w' hs' hstep => ?_)
          exact ih _ _ ρ' _ w' hx hs' (fun ρ2 a2 w2 hs2 hst2 => hQ ρ2 a2 w2 hs2 (hstep.trans (by rw [put_h] at hst2; exact hst2)))
        · cases hx
      | false =>
        rw [hw] at hx
        simp only [cond_false] at hx
        simp only [Bool.false_eq_true, if_false]
        have hp := put_simS hs hs.sim (Step.refl _ _ _) (ok_undef _) o.dst
        rw [ren_undef] at hp
        exact ih _ _ ρ _ w hx hp (fun ρ2 a2 w2 hs2 hst2 => hQ ρ2 a2 w2 hs2 (by rw [put_h] at hst2; exact hst2))
    · cases hx

def regS (P : Program) (call : Call) : Reg := fun ops d s => cond d none (opsS P call ops (List.range ops.size) s)

theorem regS_ok {P : Program} (call : Call) (hc : CallOK P call) : RegOK P (regS P call) := by
  intro ops d s s' h id ρ a w Q hs hQ
  cases d with
  | true => cases h
  | false =>
    refine wp_region ?_
    exact opsS_wp hc (ops := ops) (Q := Q) (List.range ops.size) s s' ρ a w h hs hQ

/-- the soft run of a function -/
def callsS (P : Program) (ext : FuncId → Option (Array Value → H → Option (Value × H))) (lf : Nat) : Nat → Call := callsX P (regS P) ext lf

theorem callsS_ok {P : Program} (hnn : NoNum P) {ext : FuncId → Option (Array Value → H → Option (Value × H))} (he : ExtOK P ext) (lf n : Nat) : CallOK P (callsS P ext lf n) :=
  calls_ok hnn (fun call hc => regS_ok call hc) he lf n

/-! ### a body in two parts -/
def restC : Nat → Code → Code
  | 0, c => c
  | k + 1, .seq _ b => restC k b
  | _, _ => .skip
def headS (reg : Reg) (lf : Nat) : Nat → Code → St → Option St
  | 0, _, s => some s
  | k + 1, .seq a b, s => match codeX reg lf a s with
    | some (.normal, s') => headS reg lf k b s'
    | _ => none
  | _, _, _ => none
theorem head_rest {reg : Reg} {lf : Nat} : ∀ (k : Nat) (c : Code) (s s' : St), headS reg lf k c s = some s' → codeX reg lf c s = codeX reg lf (restC k c) s'
  | 0, c, s, s', h => by simp only [headS, Option.some.injEq] at h; subst h; rfl
  | k + 1, c, s, s', h => by
    cases c with
    | seq a b =>
      simp only [headS] at h
      split at h
      · rename_i s1 h1
        simp only [codeX, restC, h1, seqEx]
        exact head_rest k b s1 s' h
      · cases h
    | _ => simp [headS] at h

end
end Go.AX
