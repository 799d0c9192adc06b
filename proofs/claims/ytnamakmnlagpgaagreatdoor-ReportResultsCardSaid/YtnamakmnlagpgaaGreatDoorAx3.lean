import Derived.Test.YtnamakmnlagpgaaGreatDoorAx2
import Derived.IntWalk
set_option linter.unusedVariables false
set_option linter.unusedSimpArgs false
namespace Go.AX
noncomputable section
open Go

/-! ### append -/
def isIntD : TypeDesc → Bool
  | .int _ => true
  | _ => false

def newX (z : Value) (size : Nat) (h : H) (xd : TypeDesc) (x : Value) : Option (Nat × List Value) :=
  cond (isIntD xd)
    (match x with
     | .int _ (.ofNat n) => cond (Nat.ble n 65536) (some (n, (Builtin.zeroCells z.cells n).toList)) none
     | _ => none)
    (match x with
     | .slice (some ⟨b, o, none⟩) n _ => match h.read b o (n * size) with
       | some l => some (n, l)
       | none => none
     | .slice none n _ => some (n, [])
     | .string s => some (s.size, ((s.extract 0 s.size).data.map fun b => Value.int .u8 b.toNat).toList)
     | _ => none)

/-- what the model asks of the second argument -/
structure NewRun (P : Program) (xd : TypeDesc) (e : TypeId) (z : Value) (inf : TypeInfo) (x : Value) (n : Nat) (new : Array Value) (w : World) : Prop where
  ints : isIntD xd = true → ∃ k, x = .int k (Int.ofNat n) ∧ n ≤ 65536 ∧ new = Builtin.zeroCells z.cells n
  len : isIntD xd = false → (Builtin.lenOf x).run P w = .ok n w
  cells : isIntD xd = false → ∀ d, (Builtin.firstCells inf.size n x).run P { w with drawn := d } = .ok new { w with drawn := d }

theorem nextslicecap_le {need c : Nat} (h : c < need) : Builtin.nextslicecap need c ≤ 2 * need + 768 := by
  have grow : ∀ r c, c < need + (need + 768) / 4 + 1 → Builtin.growBy need r c ≤ need + (need + 768) / 4 := by
    intro r
    induction r with
    | zero => intro c hc; simp only [Builtin.growBy]; omega
    | succ r ih =>
      intro c hc
      simp only [Builtin.growBy]
      split
      · omega
      · apply ih; omega
  unfold Builtin.nextslicecap
  split
  · omega
  · split
    · omega
    · have := grow 4 c (by omega); omega

theorem append_out {P : Program} {args : Array Value} {tys : Array TypeId} {ty st xt e : TypeId} {base : Option Addr} {sLen cap n : Nat} {x z : Value} {inf : TypeInfo} {xd : TypeDesc} {new : Array Value} {w : World}
    (h0 : tys[0]? = some st) (h1 : tys[1]? = some xt) (a0 : args[0]? = some (.slice base sLen cap)) (a1 : args[1]? = some x) (hu : P.underlying st = some (.slice e)) (hx : P.underlying xt = some xd)
    (hz : sizedZero P e = some (z, inf)) (hn : NewRun P xd e z inf x n new w) (hneed : sLen + n ≤ 65536) (hb : inf.bytes ≤ 65536) :
    (sLen + n ≤ cap → (Builtin.append_ tys ty args).run P w =
      ((match base with | some a => storeCells (a.add (sLen * inf.size)) new.toList | none => pure ()).run P w).andThen fun _ w' => .ok (.slice base (sLen + n) cap) w') ∧
    (cap < sLen + n → ∀ old, (∀ d, (Builtin.firstCells inf.size sLen (.slice base sLen cap)).run P { w with drawn := d } = .ok old { w with drawn := d }) →
      ∃ nc, sLen + n ≤ nc ∧ (Builtin.append_ tys ty args).run P w =
        .ok (.slice (some ⟨w.heap.size, 0, none⟩) (sLen + n) nc)
          { w with heap := w.heap.push (.cells (old ++ new ++ Builtin.zeroCells z.cells (nc - (sLen + n))) e (0, 0)), drawn := w.drawn + 1 }) := by
  obtain ⟨hi, hzf, hzs, hiz, hzr, hsr, hti⟩ := sizedZero_run hz
  have hcapm : ∀ need c, c < need → need ≤ 65536 → ¬ (Builtin.nextslicecap need c * inf.bytes > 2 ^ 48) := fun need c hc hn' => by
    have h1 := nextslicecap_le hc
    have h2 : Builtin.nextslicecap need c * inf.bytes ≤ 131840 * 65536 := Nat.mul_le_mul (by omega) hb
    have h3 : (131840 * 65536 : Nat) = 8640266240 := by decide
    have h4 : (2 : Nat) ^ 48 = 281474976710656 := by decide
    omega
  have hmax : ¬ (((sLen + n : Nat) : Int) > IntKind.i64.max) := by
    rw [IntKind.max_i64]; omega
  have hgt : cap < sLen + n → ¬ (sLen + n ≤ cap) := fun h => Nat.not_le.2 h
  cases hint : isIntD xd with
  | true =>
    obtain ⟨k, rfl, hn', rfl⟩ := hn.ints hint
    obtain ⟨k0, rfl⟩ : ∃ k0, xd = .int k0 := by cases xd <;> simp_all [isIntD]
    have hl : ¬ ((n : Int) < 0) := by omega
    have hmul : ¬ ((n : Int) * (inf.bytes : Int) > 2 ^ 48) := by
      have h' : n * inf.bytes ≤ 4294967296 := Nat.le_trans (Nat.mul_le_mul hn' hb) (by decide)
      have h'' : ((n * inf.bytes : Nat) : Int) ≤ 4294967296 := by omega
      rw [Int.natCast_mul] at h''
      have : (2 : Int) ^ 48 = 281474976710656 := by decide
      omega
    have happ : ∀ w, (if n * inf.size = 0 then (pure #[] : Sem (Array Value)) else do pure (Builtin.zeroCells (← zeroValue e).cells n)).run P w = .ok (Builtin.zeroCells z.cells n) w := fun w => by
      split
      · rename_i hzero
        simp only [Sem.run_pure, Builtin.zeroCells, hzs, hzero, Array.range_zero', Array.map_empty]
      · simp only [Sem.run_bind, hzr, Result.andThen_ok, Sem.run_pure]
    constructor
    · intro hle
      unfold Builtin.append_
      simp only [h0, a0, a1, Sem.run_bind, run_underlying hu, run_underlying hx, Result.andThen_ok, hsr, h1, Sem.run_pure, if_true, asInt, asIntOf, i64_small hn']
      rw [if_neg hl]
      simp only [Sem.run_bind, hti, Result.andThen_ok]
      rw [if_neg hmul]
      simp only [Sem.run_bind, Sem.run_pure, Result.andThen_ok, Int.toNat_natCast]
      rw [if_pos hle]
      simp only [Bool.not_true, Bool.false_eq_true, if_false]
      rw [Sem.run_bind, happ]
      simp only [Result.andThen_ok]
      cases base <;> simp
    · intro hlt old hold
      refine ⟨Question.cut (.appendCap (sLen + n) cap e) (w.tape w.drawn (.appendCap (sLen + n) cap e)), by simp only [Question.cut]; omega, ?_⟩
      unfold Builtin.append_
      simp only [h0, a0, a1, Sem.run_bind, run_underlying hu, run_underlying hx, Result.andThen_ok, hsr, h1, Sem.run_pure, if_true, asInt, asIntOf, i64_small hn']
      rw [if_neg hl]
      simp only [Sem.run_bind, hti, Result.andThen_ok]
      rw [if_neg hmul]
      simp only [Sem.run_bind, Sem.run_pure, Result.andThen_ok, Int.toNat_natCast]
      rw [if_neg (hgt hlt)]
      simp only [Sem.run_bind, hti, Result.andThen_ok]
      rw [if_neg (fun h => hmax h.1)]
      simp only [Sem.run_pure, Result.andThen_ok, Sem.run_bind, hti]
      rw [if_neg (hcapm _ _ hlt hneed)]
      simp only [Sem.run_pure, Result.andThen_ok, Sem.run_bind, run_choose, Question.forced, Bool.false_eq_true, if_false, run_askRoom, hti]
      rw [hold]
      simp only [Result.andThen_ok, Bool.not_true, Bool.false_eq_true, if_false, Sem.run_bind]
      rw [happ]
      simp only [Result.andThen_ok, Sem.run_bind, hzr, newRow, run_newObj, Sem.run_pure]
  | false =>
    have hlen := hn.len hint
    have hcel := hn.cells hint
    have hcel0 : (Builtin.firstCells inf.size n x).run P w = .ok new w := hcel w.drawn
    constructor
    · intro hle
      unfold Builtin.append_
      simp only [h0, a0, a1, Sem.run_bind, run_underlying hu, run_underlying hx, Result.andThen_ok, hsr, h1, Sem.run_pure]
      cases xd <;> first
        | (simp [isIntD] at hint; done)
        | (simp only [Bool.false_eq_true, if_false]
           rw [Sem.run_bind, hlen]
           simp only [Result.andThen_ok]
           rw [if_pos hle]
           simp only [Bool.not_false, if_true]
           rw [Sem.run_bind, hcel0]
           simp only [Result.andThen_ok]
           cases base <;> simp)
    · intro hlt old hold
      refine ⟨Question.cut (.appendCap (sLen + n) cap e) (w.tape w.drawn (.appendCap (sLen + n) cap e)), by simp only [Question.cut]; omega, ?_⟩
      unfold Builtin.append_
      simp only [h0, a0, a1, Sem.run_bind, run_underlying hu, run_underlying hx, Result.andThen_ok, hsr, h1, Sem.run_pure]
      cases xd <;> first
        | (simp [isIntD] at hint; done)
        | (simp only [Bool.false_eq_true, if_false]
           rw [Sem.run_bind, hlen]
           simp only [Result.andThen_ok]
           rw [if_neg (hgt hlt)]
           simp only [Sem.run_bind, hti, Result.andThen_ok]
           rw [if_neg (fun h => hmax h.1)]
           simp only [Sem.run_pure, Result.andThen_ok, Sem.run_bind, hti]
           rw [if_neg (hcapm _ _ hlt hneed)]
           simp only [Sem.run_pure, Result.andThen_ok, Sem.run_bind, run_choose, Question.forced, Bool.false_eq_true, if_false, run_askRoom, hti]
           rw [hold]
           simp only [Result.andThen_ok, Bool.not_false, if_true, Sem.run_bind]
           rw [hcel]
           simp only [Result.andThen_ok, Sem.run_bind, hzr, newRow, run_newObj, Sem.run_pure])


/-! ### the heap's side -/
/-- less is known of b -/
theorem less_sim {ρ : Nat → Loc} {h : H} {w : World} {b : Nat} {k k' : Blk} (s : Sim ρ h w) (hb : h.blks.get b = some k) (l : Less k' k) : Sim ρ (h.put b k') w := by
  refine ⟨fun x kx e => ?_, fun x kx e => ?_, fun x1 x2 k1 k2 e1 e2 hn hB => ?_, fun x kx e => ?_, s.gsz, s.glob, s.big⟩
  · simp only [H.put, Tr.get_set] at e
    split at e
    · rename_i a; subst a; exact s.lt _ _ hb
    · exact s.lt x kx e
  · simp only [H.put, Tr.get_set] at e
    split at e
    · rename_i a; subst a
      simp only [Option.some.injEq] at e; subst e
      exact (s.obj _ _ hb).less l
    · exact s.obj x kx e
  · simp only [H.put, Tr.get_set] at e1 e2
    split at e1 <;> split at e2
    · rename_i a b'; exact absurd (a.trans b'.symm) hn
    · rename_i a a'; subst a
      simp only [Option.some.injEq] at e1; subst e1
      exact (s.sep _ _ _ _ hb e2 hn hB).less l (.refl _)
    · rename_i a' a; subst a
      simp only [Option.some.injEq] at e2; subst e2
      exact (s.sep _ _ _ _ e1 hb hn hB).less (.refl _) l
    · exact s.sep _ _ _ _ e1 e2 hn hB
  · simp only [H.put, Tr.get_set] at e
    split at e
    · rename_i a; subst a
      simp only [Option.some.injEq] at e; subst e
      have hg := s.grp _ _ hb
      rcases l with rfl | ⟨cs, co, g, sz, k0, n, rfl, rfl⟩
      · exact hg
      · simp only [GrpOK, H.put] at hg ⊢
        cases hgg : h.grps.get g with
        | none => rw [hgg] at hg; exact hg
        | some gr => rw [hgg] at hg; exact ⟨hg.1, fun hx i hi => hg.2 hx i (by simp at hi; omega)⟩
    · exact s.grp x kx e

/-- the world turned where nothing is known -/
theorem beyond_sim {ρ : Nat → Loc} {h : H} {w : World} {B p n : Nat} {C C' : Array Value} {el : TypeId} {fz : Nat × Nat} (s : Sim ρ h w) (hC : w.heap[B]? = some (.cells C el fz))
    (hs : C'.size = C.size) (hsame : ∀ j, j < p → C'[j]? = C[j]?)
    (hout : ∀ x cs co g k sz, h.blks.get x = some (.cells cs co g k sz) → (ρ x).B = B → ∀ i, i < cs.length → (ρ x).off + i < p) :
    Sim ρ h (World.putB w B (.cells C' el fz)) := by
  have hlt := (Array.getElem?_eq_some_iff.1 hC).1
  refine ⟨s.lt, fun x kx e => ?_, s.sep, s.grp, s.gsz, s.glob, s.big⟩
  have hx := s.obj x kx e
  by_cases hB : (ρ x).B = B
  · cases kx with
    | cells cs co g k sz =>
      obtain ⟨h1, C2, el2, fz2, h2, h3, h4, h5⟩ := hx
      rw [hB, hC] at h2
      simp only [Option.some.injEq, Obj.cells.injEq] at h2
      obtain ⟨rfl, rfl, rfl⟩ := h2
      refine ⟨h1, C', el, fz, by rw [hB, putB_get hlt]; simp, fun i v hi => ?_, by rw [hs]; exact h4, by rw [hs]; exact h5⟩
      rw [hsame _ (hout x cs co g k sz e hB i (List.getElem?_eq_some_iff.1 hi).1)]
      exact h3 i v hi
    | map es c => have := hx.2; rw [hB, hC] at this; cases this
    | siter a b => have := hx.2; rw [hB, hC] at this; cases this
    | miter a b c d => have := hx.2.2; rw [hB, hC] at this; cases this
  · exact hx.mono (Agree.refl _ _) (Nat.le_refl _) (fun o' ho' => by rw [putB_get hlt, if_neg hB]; exact ho')

/-- one more name for cells of a group -/
def H.join (h : H) (g : Nat) (mem : List Nat) (e : Nat) (k : Blk) : H :=
  { blks := h.blks.set h.size k, grps := h.grps.set g { own := h.size, mem := h.size :: mem, ext := e }, size := h.size + 1 }

theorem join_sim {ρ : Nat → Loc} {h : H} {w : World} {g e co k sz : Nat} {cs : List Value} {mem : List Nat} {L : Loc} (s : Sim ρ h w) (hg : g < h.size)
    (hk : BlkOK (ext ρ h.size L) (h.size + 1) L w (.cells cs co g k sz))
    (hmem : ∀ x cs' co' k' sz', h.blks.get x = some (.cells cs' co' g k' sz') → x ∈ mem ∧ ∀ i, i < cs'.length → co' + i < e)
    (hmate : ∀ x kx, h.blks.get x = some kx → (ρ x).B = L.B → Mates (ρ x) L kx (.cells cs co g k sz)) :
    Sim (ext ρ h.size L) (h.join g mem e (.cells cs co g k sz)) w := by
  have hold : ∀ x kx, h.blks.get x = some kx → x ≠ h.size ∧ ext ρ h.size L x = ρ x := fun x kx e => by
    have hl := s.lt x kx e
    exact ⟨by omega, ext_agree _ _ _ x hl⟩
  refine ⟨fun x kx e' => ?_, fun x kx e' => ?_, fun x1 x2 k1 k2 e1 e2 hne hB => ?_, fun x kx e' => ?_, fun g' gr e' => ?_, fun g' hg' => ?_, ?_⟩
  · simp only [H.join, Tr.get_set] at e' ⊢
    split at e'
    · omega
    · have := s.lt x kx e'; omega
  · simp only [H.join, Tr.get_set] at e' ⊢
    split at e'
    · rename_i a; subst a
      simp only [Option.some.injEq] at e'; subst e'
      rw [ext_self]; exact hk
    · rw [(hold x kx e').2]
      exact (s.obj x kx e').mono (ext_agree _ _ _) (Nat.le_succ _) (fun o' ho' => ho')
  · simp only [H.join, Tr.get_set] at e1 e2
    split at e1 <;> split at e2
    · rename_i a b'; exact absurd (a.trans b'.symm) hne
    · rename_i a _
      subst a
      simp only [Option.some.injEq] at e1; subst e1
      rw [ext_self, (hold x2 k2 e2).2] at hB ⊢
      have hm := hmate x2 k2 e2 hB.symm
      cases k2 with
      | cells cs' co' g' k' sz' => exact ⟨hm.1.symm, hm.2.symm⟩
      | _ => exact hm.elim
    · rename_i _ a
      subst a
      simp only [Option.some.injEq] at e2; subst e2
      rw [ext_self, (hold x1 k1 e1).2] at hB ⊢
      exact hmate x1 k1 e1 hB
    · rw [(hold x1 k1 e1).2, (hold x2 k2 e2).2] at hB ⊢
      exact s.sep _ _ _ _ e1 e2 hne hB
  · simp only [H.join, Tr.get_set] at e'
    split at e'
    · rename_i a; subst a
      simp only [Option.some.injEq] at e'; subst e'
      simp only [GrpOK, H.join, Tr.get_set, if_true]
      exact ⟨by simp, fun hx => absurd rfl hx⟩
    · rename_i hxs
      cases kx with
      | cells cs' co' g' k' sz' =>
        simp only [GrpOK, H.join, Tr.get_set]
        split
        · rename_i hgr
          split at hgr
          · cases hgr
          · have := s.grp x _ e'
            simp only [GrpOK, hgr] at this
            exact this
        · rename_i gr hgr
          split at hgr
          · rename_i hgg
            subst hgg
            simp only [Option.some.injEq] at hgr; subst hgr
            obtain ⟨h1, h2⟩ := hmem x cs' co' k' sz' e'
            exact ⟨by simp [h1], fun _ => h2⟩
          · have := s.grp x _ e'
            simp only [GrpOK, hgr] at this
            exact this
      | _ => trivial
  · simp only [H.join, Tr.get_set] at e'
    split at e'
    · simp only [H.join]; omega
    · have := s.gsz g' gr e'; simp only [H.join]; omega
  · have := s.big
    rw [show ext ρ h.size L g' = ρ g' from ext_agree _ _ _ g' (by unfold roB at this; omega)]
    exact s.glob g' hg'
  · have := s.big; simp only [H.join]; omega

def appendAt (size : Nat) (base : Option Addr) (sLen sCap n : Nat) (new : List Value) (h : H) : Option (Value × H) :=
  match base with
  | none => cond (Nat.beq sLen 0) (cond (Nat.beq sCap 0)
      (cond (Nat.beq n 0) (some (.slice none 0 0, h)) (some (.slice (some ⟨h.size, 0, none⟩) n (2 * n + 1), h.newCells new (n * size) size))) none) none
  | some ⟨b, o, none⟩ => match h.blks.get b with
    | some (.cells cs co g k sz) =>
      cond (Nat.ble (o + sLen * size) cs.length)
        (cond (Nat.ble (sLen + n) (sCap / 2))
          (match h.write b (o + sLen * size) new with
           | some h' => some (.slice (some ⟨b, o, none⟩) (sLen + n) sCap, h')
           | none => none)
          (cond (Nat.beq (sCap % 2) 1)
            (cond (Nat.beq sz size) (cond (Nat.beq (o + sCap / 2 * size) k) (cond (Nat.ble roB b)
              (let h1 := h.trim b g (co + (o + sLen * size))
               some (.slice (some ⟨h.size, 0, none⟩) (sLen + n) (2 * (sLen + n) + 1),
                 ((h1.put b (.cells (cs.take (o + sLen * size)) co g k sz)).join g (match h1.grps.get g with | some gr => gr.mem | none => [b]) (co + (o + sLen * size))
                   (.cells ((cs.drop o).take (sLen * size) ++ new) (co + o) g ((sLen + n) * size) size)))) none) none) none)
            (some (.slice (some ⟨h.size, 0, none⟩) (sLen + n) (2 * (sLen + n) + 1), h.newCells ((cs.drop o).take (sLen * size) ++ new) ((sLen + n) * size) size))))
        none
    | _ => none
  | _ => none

def appendX (P : Program) (ts : Array TypeId) (args : Array Value) (h : H) : Option (Value × H) :=
  match ts[0]?, ts[1]?, args[0]?, args[1]? with
  | some st, some xt, some (Value.slice base sLen sCap), some x =>
    match P.underlying st, P.underlying xt with
    | some (.slice e), some xd => match sizedZero P e with
      | some (z, inf) => match newX z inf.size h xd x with
        | some (n, new) => cond (new.all cellB) (cond (new.all (ok h.size)) (cond (Nat.beq new.length (n * inf.size)) (cond (Nat.ble (sLen + n) 65536) (cond (Nat.ble inf.bytes 65536)
            (appendAt inf.size base sLen sCap n new h) none) none) none) none) none
        | none => none
      | none => none
    | _, _ => none
  | _, _, _, _ => none

theorem str_free (b : ByteArray) : ∀ v, v ∈ (b.data.map fun b => Value.int .u8 b.toNat).toList → free v = true := by
  intro v hv
  simp only [Array.toList_map, List.mem_map] at hv
  obtain ⟨a, _, rfl⟩ := hv
  rfl

theorem map_free {ρ : Nat → Loc} {l : List Value} (h : ∀ v, v ∈ l → free v = true) : l.map (ren ρ) = l := by
  conv => rhs; rw [← List.map_id l]
  exact List.map_congr_left fun v hv => ren_free ρ v (h v hv)

theorem new_run {P : Program} {ρ : Nat → Loc} {h : H} {w : World} {z x : Value} {e : TypeId} {inf : TypeInfo} {xd : TypeDesc} {n : Nat} {new : List Value} (s : Sim ρ h w) (hz : sizedZero P e = some (z, inf))
    (hn : newX z inf.size h xd x = some (n, new)) : NewRun P xd e z inf (ren ρ x) n (new.map (ren ρ)).toArray w := by
  obtain ⟨hi, hzf, hzs, hiz, hzr, hsr, hti⟩ := sizedZero_run hz
  unfold newX at hn
  cases hint : isIntD xd with
  | true =>
    rw [hint] at hn
    simp only [cond_true] at hn
    refine ⟨fun _ => ?_, fun h => (by rw [hint] at h; cases h), fun h => (by rw [hint] at h; cases h)⟩
    split at hn
    · rename_i k m
      obtain ⟨h1, h2⟩ := cond_some hn
      simp only [Option.some.injEq, Prod.mk.injEq] at h2
      obtain ⟨rfl, rfl⟩ := h2
      refine ⟨k, by simp only [ren], nble_true h1, ?_⟩
      apply Array.ext'
      simp only [Builtin.zeroCells, ← Array.toList_map]
      rw [zeros_ren hzf]
    · cases hn
  | false =>
    rw [hint] at hn
    simp only [cond_false] at hn
    refine ⟨fun h => (by rw [hint] at h; cases h), fun _ => ?_, fun _ d => ?_⟩
    · split at hn
      · rename_i b o m c
        split at hn
        · simp only [Option.some.injEq, Prod.mk.injEq] at hn
          obtain ⟨rfl, rfl⟩ := hn
          simp [ren, Builtin.lenOf]
        · cases hn
      · simp only [Option.some.injEq, Prod.mk.injEq] at hn
        obtain ⟨rfl, rfl⟩ := hn
        simp [ren, Builtin.lenOf]
      · simp only [Option.some.injEq, Prod.mk.injEq] at hn
        obtain ⟨rfl, rfl⟩ := hn
        simp [ren, Builtin.lenOf]
      · cases hn
    · split at hn
      · rename_i b o m c
        split at hn
        · rename_i l hl
          simp only [Option.some.injEq, Prod.mk.injEq] at hn
          obtain ⟨rfl, rfl⟩ := hn
          simp only [ren, renA, Builtin.firstCells]
          exact cellsAt_run (s.drawn d) hl
        · cases hn
      · simp only [Option.some.injEq, Prod.mk.injEq] at hn
        obtain ⟨rfl, rfl⟩ := hn
        simp [ren, Builtin.firstCells]
      · rename_i b
        simp only [Option.some.injEq, Prod.mk.injEq] at hn
        obtain ⟨rfl, rfl⟩ := hn
        rw [map_free (str_free _)]
        simp only [ren, Builtin.firstCells, ByteArray.extract_zero_size, Sem.run_pure]
      · cases hn


structure Done (P : Program) (ρ : Nat → Loc) (h : H) (w : World) (r : Result Value) (v : Value) (h' : H) : Prop where
  out : ∃ w' ρ', r = .ok (ren ρ' v) w' ∧ Sim ρ' h' w' ∧ Step ρ h w ρ' h' w'

theorem Step.drawn' {ρ ρ' : Nat → Loc} {h h' : H} {w w' : World} {d : Nat} (s : Step ρ h { w with drawn := d } ρ' h' w') : Step ρ h w ρ' h' w' :=
  ⟨s.agree, s.size, s.os, s.tape, s.output, s.hsize, s.frame, s.img⟩

theorem nble_false' {a b : Nat} (h : Nat.ble a b = false) : b < a := by
  rcases Nat.lt_or_ge b a with h' | h'
  · exact h'
  · rw [Nat.ble_eq_true_of_le h'] at h; cases h

theorem getElem?_app {α : Type} (a b : List α) (i : Nat) : (a ++ b)[i]? = if i < a.length then a[i]? else b[i - a.length]? := by
  split
  · rename_i h; exact List.getElem?_append_left h
  · rename_i h; exact List.getElem?_append_right (by omega)

/-- a new row behind an append -/
theorem fresh_row {ρ : Nat → Loc} {h : H} {w : World} {cs : List Value} {rest : Array Value} {e : TypeId} {d k sz nc : Nat} {fz : Nat × Nat} (s : Sim ρ h w) (hok : ∀ v, v ∈ cs → ok h.size v = true) (hfz : FzOK (cs.length + rest.size) fz)
    (hroom : k + nc * sz ≤ cs.length + rest.size) :
    Sim (Go.AX.ext ρ h.size ⟨w.heap.size, 0, nc⟩) (h.newCells cs k sz) { w with heap := w.heap.push (.cells ((cs.map (ren ρ)).toArray ++ rest) e fz), drawn := d } ∧
    Step ρ h w (Go.AX.ext ρ h.size ⟨w.heap.size, 0, nc⟩) (h.newCells cs k sz) { w with heap := w.heap.push (.cells ((cs.map (ren ρ)).toArray ++ rest) e fz), drawn := d } := by
  have hk : BlkOK (Go.AX.ext ρ h.size ⟨w.heap.size, 0, nc⟩) (h.size + 1) ⟨w.heap.size, 0, nc⟩ { w with heap := w.heap.push (.cells ((cs.map (ren ρ)).toArray ++ rest) e fz) } (.cells cs 0 h.size k sz) := by
    refine ⟨fun v hv => ok_mono (Nat.le_succ _) v (hok v hv), (cs.map (ren ρ)).toArray ++ rest, e, fz, by simp, fun i v hi => ?_, (by simpa using hfz), ?_⟩
    · simp only [Nat.zero_add]
      rw [ren_agree (ext_agree ρ h.size _) v (hok v (List.mem_of_getElem? hi))]
      have hlt := (List.getElem?_eq_some_iff.1 hi).1
      rw [Array.getElem?_append_left (by simpa using hlt)]
      simp [hi]
    · simp only [Array.size_append, List.size_toArray, List.length_map]; omega
  obtain ⟨a, b⟩ := new_sim (k := .cells cs 0 h.size k sz) (o := .cells ((cs.map (ren ρ)).toArray ++ rest) e fz) (ex := nc) s ⟨rfl, rfl⟩ hk
  exact ⟨a.drawn d, b.trans (Step.drawn _ _ _ _)⟩

theorem push_sim {ρ : Nat → Loc} {h : H} {w : World} {o : Obj} {d : Nat} (s : Sim ρ h w) : Sim ρ h { w with heap := w.heap.push o, drawn := d } :=
  ⟨s.lt, fun b k e => (s.obj b k e).mono (Agree.refl _ _) (Nat.le_refl _) (fun o' ho' => push_get ho'), s.sep, s.grp, s.gsz, s.glob, s.big⟩

theorem maybe_run {P : Program} {ρ : Nat → Loc} {h : H} {w : World} {ts : Array TypeId} {ty e : TypeId} {args : Array Value} {z : Value} {b o sLen sCap n co g k size : Nat} {cs new : List Value} (s : Sim ρ h w)
    (hb : h.blks.get b = some (.cells cs co g k size)) (hkn : o + sLen * size ≤ cs.length) (hodd : Nat.beq (sCap % 2) 1 = true) (hkk : o + sCap / 2 * size = k) (hro : roB ≤ b)
    (hcell : ∀ v, v ∈ new → cellB v = true) (hnok : ∀ v, v ∈ new → ok h.size v = true) (hlen : new.length = n * size) (hzs : z.cells.size = size)
    (o1 : sLen + n ≤ renC ρ b sCap → (Builtin.append_ ts ty args).run P w =
      ((storeCells (⟨(ρ b).B, (ρ b).off + o + sLen * size, none⟩) (new.map (ren ρ))).run P w).andThen fun _ w' => .ok (.slice (some ⟨(ρ b).B, (ρ b).off + o, none⟩) (sLen + n) (renC ρ b sCap)) w')
    (o2 : renC ρ b sCap < sLen + n → ∃ nc, sLen + n ≤ nc ∧ (Builtin.append_ ts ty args).run P w =
        .ok (.slice (some ⟨w.heap.size, 0, none⟩) (sLen + n) nc)
          { w with heap := w.heap.push (.cells ((((cs.drop o).take (sLen * size)).map (ren ρ)).toArray ++ (new.map (ren ρ)).toArray ++ Builtin.zeroCells z.cells (nc - (sLen + n))) e (0, 0)), drawn := w.drawn + 1 }) :
    Done P ρ h w ((Builtin.append_ ts ty args).run P w) (.slice (some ⟨h.size, 0, none⟩) (sLen + n) (2 * (sLen + n) + 1))
      (((h.trim b g (co + (o + sLen * size))).put b (.cells (cs.take (o + sLen * size)) co g k size)).join g
        (match (h.trim b g (co + (o + sLen * size))).grps.get g with | some gr => gr.mem | none => [b]) (co + (o + sLen * size))
        (.cells ((cs.drop o).take (sLen * size) ++ new) (co + o) g ((sLen + n) * size) size)) := by
  obtain ⟨s1, tr⟩ := trim_sim (c := co + (o + sLen * size)) s hb
  generalize H.trim h b g (co + (o + sLen * size)) = h1 at s1 tr ⊢
  have hb1 : h1.blks.get b = some (.cells cs co g k size) := tr.same.trans hb
  have s2 := less_sim s1 hb1 (.inr ⟨cs, co, g, k, size, o + sLen * size, rfl, rfl⟩)
  have hgb := s1.grp b _ hb1
  have hsz : h1.size = h.size := tr.size
  have hcr : renC ρ b sCap = sCap / 2 + (ρ b).ex := by unfold renC; rw [hodd]; rfl
  have hcoord : ∀ x cs' co' k' sz', (h1.put b (.cells (cs.take (o + sLen * size)) co g k size)).blks.get x = some (.cells cs' co' g k' sz') → ∀ i, i < cs'.length → co' + i < co + (o + sLen * size) := by
    intro x cs' co' k' sz' e' i hi
    simp only [H.put, Tr.get_set] at e'
    split at e'
    · simp only [Option.some.injEq, Blk.cells.injEq] at e'
      obtain ⟨rfl, rfl, _, rfl, rfl⟩ := e'
      simp at hi; omega
    · rename_i hx
      exact tr.excl x hx cs' co' k' sz' e' i hi
  have hmem : ∀ x cs' co' k' sz', (h1.put b (.cells (cs.take (o + sLen * size)) co g k size)).blks.get x = some (.cells cs' co' g k' sz') →
      x ∈ (match h1.grps.get g with | some gr => gr.mem | none => [b]) ∧ ∀ i, i < cs'.length → co' + i < co + (o + sLen * size) := by
    intro x cs' co' k' sz' e'
    refine ⟨?_, hcoord x cs' co' k' sz' e'⟩
    have hx : ∃ cs0, h1.blks.get x = some (.cells cs0 co' g k' sz') := by
      simp only [H.put, Tr.get_set] at e'
      split at e'
      · rename_i a; subst a
        simp only [Option.some.injEq, Blk.cells.injEq] at e'
        obtain ⟨rfl, rfl, _, rfl, rfl⟩ := e'
        exact ⟨cs, hb1⟩
      · exact ⟨cs', e'⟩
    obtain ⟨cs0, hx⟩ := hx
    have hgx := s1.grp x _ hx
    simp only [GrpOK] at hgx hgb
    cases hgr : h1.grps.get g with
    | none =>
      rw [hgr] at hgx hgb
      simp only [List.mem_singleton]
      exact hgx.symm.trans hgb
    | some gr => rw [hgr] at hgx; exact hgx.1
  have hglt : g < (h1.put b (.cells (cs.take (o + sLen * size)) co g k size)).size := by
    simp only [GrpOK] at hgb
    cases hgr : h1.grps.get g with
    | none => rw [hgr] at hgb; subst hgb; exact s1.lt _ _ hb1
    | some gr => exact s1.gsz _ _ hgr
  have hold : ∀ i v, ((cs.drop o).take (sLen * size) ++ new)[i]? = some v → (i < sLen * size ∧ cs[o + i]? = some v) ∨ (sLen * size ≤ i ∧ new[i - sLen * size]? = some v) := by
    intro i v hi
    have hl : ((cs.drop o).take (sLen * size)).length = sLen * size := by simp; omega
    rw [getElem?_app, hl] at hi
    split at hi
    · rename_i hlt
      rw [List.getElem?_take, if_pos hlt, List.getElem?_drop] at hi
      exact .inl ⟨hlt, hi⟩
    · exact .inr ⟨by omega, hi⟩
  obtain ⟨hcok, C, el, fz, hC, hcs, hfz, hk⟩ := s1.obj b _ hb1
  rw [hsz] at hcok
  have hvok : ∀ v, v ∈ ((cs.drop o).take (sLen * size) ++ new) → ok h.size v = true := fun v hv =>
    (List.mem_append.1 hv).elim (fun h => hcok v (List.mem_of_mem_drop (List.mem_of_mem_take h))) (hnok v)
  have himg : ∀ (r : Nat) (B' : Nat) (L : Loc) (w' : World), B' < w.heap.size → L.B ≠ B' → Off r ρ h B' → Off r (Go.AX.ext ρ h1.size L) ((h1.put b (.cells (cs.take (o + sLen * size)) co g k size)).join g
        (match h1.grps.get g with | some gr => gr.mem | none => [b]) (co + (o + sLen * size)) (.cells ((cs.drop o).take (sLen * size) ++ new) (co + o) g ((sLen + n) * size) size)) B' := by
    intro r B' L w' hB' hL ho x kx hx e'
    simp only [H.join, H.put, Tr.get_set] at e'
    split at e'
    · rename_i a; rw [a, ext_self]; exact hL
    · rename_i a
      have hxlt : x < h1.size := by
        split at e'
        · rename_i a'; subst a'; exact s1.lt _ _ hb1
        · exact s1.lt _ _ e'
      rw [ext_agree _ _ _ x hxlt]
      split at e'
      · rename_i a'; subst a'; exact ho _ _ hx hb
      · obtain ⟨k0, hk0, _⟩ := tr.less x kx e'
        exact ho x k0 hx hk0
  by_cases hin : sLen + n ≤ renC ρ b sCap
  · -- it lies in the old row
    have hmul : (sLen + n) * size ≤ (sCap / 2 + (ρ b).ex) * size := Nat.mul_le_mul_right _ (hcr ▸ hin)
    rw [Nat.add_mul, Nat.add_mul] at hmul
    obtain ⟨C', hs', hC', hr⟩ := storeCells_run (P := P) (o := (ρ b).off + o + sLen * size) (new.map (ren ρ)) 0 w C hC (by simp only [List.length_map, hlen]; omega) hfz.no (fun v hv' => by
      obtain ⟨u, hu, rfl⟩ := List.mem_map.1 hv'
      rw [ren_cellB]; exact hcell u hu)
    simp only [List.length_map, Nat.add_zero, hlen] at hC'
    have hlt := (Array.getElem?_eq_some_iff.1 hC).1
    have s3 := beyond_sim (C' := C') (p := (ρ b).off + o + sLen * size) (n := 0) s2 hC hs' (fun j hj => by rw [hC', if_neg (by omega)]) (fun x cs' co' g' k' sz' e' hB i hi => by
      by_cases hx : x = b
      · subst hx
        simp only [H.put, Tr.get_set_same, Option.some.injEq, Blk.cells.injEq] at e'
        obtain ⟨rfl, rfl, rfl, rfl, rfl⟩ := e'
        simp at hi; omega
      · have hm := s2.sep x b _ _ e' (Tr.get_set_same _ _ _) hx hB
        obtain ⟨rfl, hm⟩ := hm
        have := hcoord x cs' co' k' sz' e' i hi
        omega)
    have s4 := join_sim (L := ⟨(ρ b).B, (ρ b).off + o, sCap / 2 + (ρ b).ex - (sLen + n)⟩) (e := co + (o + sLen * size)) (co := co + o) (k := (sLen + n) * size) (sz := size) (cs := (cs.drop o).take (sLen * size) ++ new)
      (mem := match h1.grps.get g with | some gr => gr.mem | none => [b]) s3 hglt (by
        refine ⟨fun v hv => ok_mono (Nat.le_succ _) v (by show ok h1.size v = true; rw [hsz]; exact hvok v hv), C', el, fz, by rw [putB_get hlt]; simp, fun i v hi => ?_, by rw [hs']; exact hfz, ?_⟩
        · rw [ren_agree (ext_agree ρ _ _) v (by show ok h1.size v = true; rw [hsz]; exact hvok v (List.mem_of_getElem? hi))]
          rcases hold i v hi with ⟨hlt', hv⟩ | ⟨hge, hv⟩
          · simp only
            rw [hC', if_neg (by omega)]
            have := hcs (o + i) v hv
            rwa [← Nat.add_assoc] at this
          · simp only
            have hb' := (List.getElem?_eq_some_iff.1 hv).1
            rw [hlen] at hb'
            rw [hC', if_pos (by omega), show (ρ b).off + o + i - ((ρ b).off + o + sLen * size) = i - sLen * size from by omega, List.getElem?_map, hv]; rfl
        · rw [hs']
          simp only
          have : (sLen + n) * size + (sCap / 2 + (ρ b).ex - (sLen + n)) * size = (sCap / 2 + (ρ b).ex) * size := by
            rw [← Nat.add_mul]; congr 1; omega
          rw [Nat.add_mul] at this
          rw [Nat.add_mul]
          rw [Nat.add_mul] at this
          omega) hmem (fun x kx e' hB => by
        by_cases hx : x = b
        · subst hx
          simp only [H.put, Tr.get_set_same, Option.some.injEq] at e'
          subst e'
          exact ⟨rfl, by simp only; omega⟩
        · have hm := s2.sep x b _ _ e' (Tr.get_set_same _ _ _) hx hB
          cases kx with
          | cells cs' co' g' k' sz' => exact ⟨hm.1, by have := hm.2; simp only; omega⟩
          | _ => exact hm.elim)
    refine ⟨_, _, ?_, s4, ⟨?_, ?_, rfl, rfl, rfl, by simp [World.putB], fun B' hB' ho => ?_, fun r hr' B' hB' ho => ?_⟩⟩
    · rw [o1 hin, hr]
      simp only [Result.andThen_ok, ren, renA, renC_inexact]
      rw [show h.size = (h1.put b (.cells (cs.take (o + sLen * size)) co g k size)).size from hsz.symm, ext_self]
      simp only [Nat.add_zero]
      rw [show sLen + n + (sCap / 2 + (ρ b).ex - (sLen + n)) = renC ρ b sCap from by omega]
    · rw [← hsz]; exact ext_agree _ _ _
    · simp only [H.join, H.put]; omega
    · rw [putB_get hlt, if_neg (fun e => ho b _ hro hb e.symm)]
    · exact himg r B' _ w hB' (ho b _ (Nat.le_trans hr' hro) hb) ho
  · -- a new row
    obtain ⟨nc, hnc, hr⟩ := o2 (by omega)
    have s3 := push_sim (o := .cells ((((cs.drop o).take (sLen * size)).map (ren ρ)).toArray ++ (new.map (ren ρ)).toArray ++ Builtin.zeroCells z.cells (nc - (sLen + n))) e (0, 0)) (d := w.drawn + 1) s2
    have hzc : (Builtin.zeroCells z.cells (nc - (sLen + n))).size = (nc - (sLen + n)) * size := by simp [Builtin.zeroCells, hzs]
    have hol : ((cs.drop o).take (sLen * size)).length = sLen * size := by simp; omega
    have s4 := join_sim (L := ⟨w.heap.size, 0, nc - (sLen + n)⟩) (e := co + (o + sLen * size)) (co := co + o) (k := (sLen + n) * size) (sz := size) (cs := (cs.drop o).take (sLen * size) ++ new)
      (mem := match h1.grps.get g with | some gr => gr.mem | none => [b]) s3 hglt (by
        refine ⟨fun v hv => ok_mono (Nat.le_succ _) v (by show ok h1.size v = true; rw [hsz]; exact hvok v hv), (((cs.drop o).take (sLen * size)).map (ren ρ)).toArray ++ (new.map (ren ρ)).toArray ++ Builtin.zeroCells z.cells (nc - (sLen + n)), e, (0, 0), by simp only [Array.getElem?_push_size], fun i v hi => ?_, (.inl rfl), ?_⟩
        · rw [ren_agree (ext_agree ρ _ _) v (by show ok h1.size v = true; rw [hsz]; exact hvok v (List.mem_of_getElem? hi))]
          simp only [Nat.zero_add]
          have hi' := (List.getElem?_eq_some_iff.1 hi).1
          have hmap : ((((cs.drop o).take (sLen * size)).map (ren ρ)).toArray ++ (new.map (ren ρ)).toArray) = (((cs.drop o).take (sLen * size) ++ new).map (ren ρ)).toArray := by simp
          rw [hmap, Array.getElem?_append_left (by simpa using hi')]
          simp only [List.getElem?_toArray, List.getElem?_map, hi, Option.map_some]
        · simp only [Array.size_append, List.size_toArray, List.length_map, hol, hlen, hzc, Nat.zero_add, Nat.add_mul]
          exact Nat.le_refl _) hmem (fun x kx e' hB => by
        have hlt := s2.block_lt e'
        simp only at hB; omega)
    refine ⟨_, _, ?_, s4, ⟨?_, ?_, rfl, rfl, rfl, by simp, fun B' hB' ho => ?_, fun r hr' B' hB' ho => ?_⟩⟩
    · rw [hr]
      simp only [ren, renA, renC_inexact]
      rw [show h.size = (h1.put b (.cells (cs.take (o + sLen * size)) co g k size)).size from hsz.symm, ext_self]
      simp only [Nat.add_zero]
      rw [show sLen + n + (nc - (sLen + n)) = nc from by omega]
    · rw [← hsz]; exact ext_agree _ _ _
    · simp only [H.join, H.put]; omega
    · simp only [Array.getElem?_push]; rw [if_neg (by omega)]
    · exact himg r B' _ w hB' (by simp only; omega) ho

theorem append_run {P : Program} {ρ : Nat → Loc} {h h' : H} {w : World} {ts : Array TypeId} {ty : TypeId} {args : Array Value} {v : Value} (s : Sim ρ h w) (ha : appendX P ts args h = some (v, h')) :
    Done P ρ h w ((Builtin.append_ ts ty (args.map (ren ρ))).run P w) v h' := by
  unfold appendX at ha
  split at ha
  · rename_i st xt base sLen sCap x h0 h1 a0 a1
    split at ha
    · rename_i e xd hu hx
      split at ha
      · rename_i z inf hz
        split at ha
        · rename_i n new hnew
          obtain ⟨hc1, ha1⟩ := cond_some ha; clear ha
          obtain ⟨hc2, ha2⟩ := cond_some ha1; clear ha1
          obtain ⟨hc3, ha3⟩ := cond_some ha2; clear ha2
          obtain ⟨hc4, ha4⟩ := cond_some ha3; clear ha3
          obtain ⟨hc5, ha⟩ := cond_some ha4; clear ha4
          have hcell : ∀ v, v ∈ new → cellB v = true := List.all_eq_true.1 hc1
          have hnok : ∀ v, v ∈ new → ok h.size v = true := List.all_eq_true.1 hc2
          have hlen : new.length = n * inf.size := nbeq_true hc3
          have hneed := nble_true hc4
          have hbytes := nble_true hc5
          obtain ⟨hi, hzf, hzs, hiz, hzr, hsr, hti⟩ := sizedZero_run hz
          have hnr := new_run s hz hnew
          have A1 : (args.map (ren ρ))[1]? = some (ren ρ x) := by rw [Array.getElem?_map, a1]; rfl
          have hzc : ∀ m, (Builtin.zeroCells z.cells m).size = m * inf.size := fun m => by simp [Builtin.zeroCells, hzs]
          unfold appendAt at ha
          split at ha
          · -- a nil slice
            obtain ⟨h3, ha⟩ := cond_some ha
            obtain ⟨h4, ha⟩ := cond_some ha
            have h3 := nbeq_true h3
            have h4 := nbeq_true h4
            subst h3; subst h4
            have A0 : (args.map (ren ρ))[0]? = some (.slice none 0 0) := by rw [Array.getElem?_map, a0]; simp [ren]
            obtain ⟨o1, o2⟩ := append_out (ty := ty) h0 h1 A0 A1 hu hx hz hnr hneed hbytes
            cases hn0 : Nat.beq n 0 with
            | true =>
              rw [hn0] at ha
              simp only [cond_true, Option.some.injEq, Prod.mk.injEq] at ha
              obtain ⟨rfl, rfl⟩ := ha
              have := nbeq_true hn0
              subst this
              refine ⟨w, ρ, ?_, s, Step.refl _ _ _⟩
              rw [o1 (by omega)]
              simp [ren]
            | false =>
              rw [hn0] at ha
              simp only [cond_false, Option.some.injEq, Prod.mk.injEq] at ha
              obtain ⟨rfl, rfl⟩ := ha
              have hnz : n ≠ 0 := fun e => by rw [e] at hn0; cases hn0
              obtain ⟨nc, hnc, hr⟩ := o2 (by omega) #[] (fun d => by simp [Builtin.firstCells])
              obtain ⟨f1, f2⟩ := fresh_row (e := e) (fz := (0, 0)) (d := w.drawn + 1) (k := n * inf.size) (sz := inf.size) (nc := nc - n) (rest := Builtin.zeroCells z.cells (nc - (0 + n))) s hnok (.inl rfl) (by
                rw [hzc, hlen, Nat.zero_add]; exact Nat.le_refl _)
              refine ⟨_, _, ?_, f1, f2⟩
              rw [hr]
              simp only [ren, renA, ext_self, renC_inexact, Nat.zero_add]
              have : n + (nc - n) = nc := by omega
              rw [this]
              simp
          · rename_i b o
            split at ha
            · rename_i cs co g k sz hb
              obtain ⟨hc6, ha1⟩ := cond_some ha; clear ha; have ha := ha1; clear ha1
              have hkn := nble_true hc6
              have A0 : (args.map (ren ρ))[0]? = some (.slice (some ⟨(ρ b).B, (ρ b).off + o, none⟩) sLen (renC ρ b sCap)) := by rw [Array.getElem?_map, a0]; simp [ren, renA]
              obtain ⟨o1, o2⟩ := append_out (ty := ty) h0 h1 A0 A1 hu hx hz hnr hneed hbytes
              have hread : h.read b o (sLen * inf.size) = some ((cs.drop o).take (sLen * inf.size)) := by
                unfold H.read; rw [hb]; simp only [hc6, cond_true]
              have hold : ∀ d, (Builtin.firstCells inf.size sLen (.slice (some ⟨(ρ b).B, (ρ b).off + o, none⟩) sLen (renC ρ b sCap))).run P { w with drawn := d } =
                  .ok (((cs.drop o).take (sLen * inf.size)).map (ren ρ)).toArray { w with drawn := d } := fun d => cellsAt_run (s.drawn d) hread
              obtain ⟨hrl, hrok, _⟩ := s.read hread
              have hcapge : sCap / 2 ≤ renC ρ b sCap := by
                unfold renC
                cases Nat.beq (sCap % 2) 1
                · simp
                · simp
              have hfresh : ∀ (nc : Nat), sLen + n ≤ nc → (Builtin.append_ ts ty (args.map (ren ρ))).run P w =
                  .ok (.slice (some ⟨w.heap.size, 0, none⟩) (sLen + n) nc)
                    { w with heap := w.heap.push (.cells ((((cs.drop o).take (sLen * inf.size)).map (ren ρ)).toArray ++ (new.map (ren ρ)).toArray ++ Builtin.zeroCells z.cells (nc - (sLen + n))) e (0, 0)), drawn := w.drawn + 1 } →
                  Done P ρ h w ((Builtin.append_ ts ty (args.map (ren ρ))).run P w) (.slice (some ⟨h.size, 0, none⟩) (sLen + n) (2 * (sLen + n) + 1))
                    (h.newCells ((cs.drop o).take (sLen * inf.size) ++ new) ((sLen + n) * inf.size) inf.size) := by
                intro nc hnc hr
                obtain ⟨f1, f2⟩ := fresh_row (e := e) (fz := (0, 0)) (d := w.drawn + 1) (cs := (cs.drop o).take (sLen * inf.size) ++ new) (k := (sLen + n) * inf.size) (sz := inf.size) (nc := nc - (sLen + n)) (rest := Builtin.zeroCells z.cells (nc - (sLen + n))) s
                  (fun v hv => (List.mem_append.1 hv).elim (hrok v) (hnok v)) (.inl rfl) (by
                    rw [hzc, List.length_append, hrl, hlen, Nat.add_mul]
                    exact Nat.le_refl _)
                refine ⟨_, _, ?_, f1, f2⟩
                rw [hr]
                simp only [ren, renA, ext_self, renC_inexact, Nat.add_zero]
                have : sLen + n + (nc - (sLen + n)) = nc := by omega
                rw [this]
                simp
              cases hin : Nat.ble (sLen + n) (sCap / 2) with
              | true =>
                -- in place
                have hin' := nble_true hin
                rw [hin] at ha
                simp only [cond_true] at ha
                split at ha
                · rename_i h2 hw
                  simp only [Option.some.injEq, Prod.mk.injEq] at ha
                  obtain ⟨rfl, rfl⟩ := ha
                  obtain ⟨w', hr, hs, hst, _⟩ := write_run (P := P) s hw (fun v hv => ⟨hnok v hv, hcell v hv⟩)
                  refine ⟨w', ρ, ?_, hs, hst⟩
                  rw [o1 (by omega)]
                  simp only [add_eq]
                  rw [Nat.add_assoc, hr]
                  simp [ren, renA]
                · cases ha
              | false =>
                rw [hin] at ha
                simp only [cond_false] at ha
                have hin' := nble_false' hin
                cases hodd : Nat.beq (sCap % 2) 1 with
                | false =>
                  rw [hodd] at ha
                  simp only [cond_false, Option.some.injEq, Prod.mk.injEq] at ha
                  obtain ⟨rfl, rfl⟩ := ha
                  have hcr : renC ρ b sCap = sCap / 2 := by unfold renC; rw [hodd]; rfl
                  obtain ⟨nc, hnc, hr⟩ := o2 (by omega) _ hold
                  exact hfresh nc hnc hr
                | true =>
                  rw [hodd] at ha
                  simp only [cond_true] at ha
                  obtain ⟨hc7, ha⟩ := cond_some ha
                  obtain ⟨hc8, ha⟩ := cond_some ha
                  obtain ⟨hc9, ha⟩ := cond_some ha
                  have hsz := nbeq_true hc7
                  have hok' := nbeq_true hc8
                  have hro := nble_true hc9
                  simp only [Option.some.injEq, Prod.mk.injEq] at ha
                  obtain ⟨rfl, rfl⟩ := ha
                  subst hsz
                  refine maybe_run (z := z) (e := e) s hb hkn hodd hok' hro hcell hnok hlen hzs (fun hle => ?_) (fun hlt => ?_)
                  · rw [o1 hle]
                    simp only [add_eq]
                  · exact o2 hlt _ hold
            · cases ha
          · cases ha
        · cases ha
      · cases ha
    · cases ha
  · cases ha

end
end Go.AX
