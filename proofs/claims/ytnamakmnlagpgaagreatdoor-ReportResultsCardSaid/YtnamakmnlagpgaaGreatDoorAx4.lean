import Derived.Test.YtnamakmnlagpgaaGreatDoorAx3
import Derived.Laws.BytesString
set_option linter.unusedVariables false
set_option linter.unusedSimpArgs false
namespace Go.AX
noncomputable section
open Go

/-! ### store -/
def storeX (P : Program) (t : TypeId) (a v : Value) (h : H) : Option H :=
  match a with
  | .pointer (some ⟨b, o, none⟩) =>
    match sizeB P t with
    | some n => cond (Nat.beq v.cells.toList.length n) (cond (v.cells.toList.all cellB) (cond (v.cells.toList.all (ok h.size)) (h.write b o v.cells.toList) none) none) none
    | none => none
  | _ => none

theorem store_run {P : Program} {ρ : Nat → Loc} {h h' : H} {w : World} {t : TypeId} {a v : Value} (s : Sim ρ h w) (hx : storeX P t a v h = some h') :
    ∃ w', (Instr.storeAt t (ren ρ a) (ren ρ v)).run P w = .ok () w' ∧ Sim ρ h' w' ∧ Step ρ h w ρ h' w' := by
  unfold storeX at hx
  split at hx
  · rename_i b o
    split at hx
    · rename_i n hs
      obtain ⟨h1, hx⟩ := cond_some hx
      obtain ⟨h2, hx⟩ := cond_some hx
      obtain ⟨h3, hx⟩ := cond_some hx
      obtain ⟨w', hr, hsim, hst, _⟩ := write_run (P := P) s hx (fun v hv => ⟨List.all_eq_true.1 h3 v hv, List.all_eq_true.1 h2 v hv⟩)
      refine ⟨w', ?_, hsim, hst⟩
      have h1 := nbeq_true h1
      have hc : (ren ρ v).cells.size = n := by
        rw [← Array.length_toList, ren_cells, List.length_map, h1]
      simp only [Instr.storeAt, Instr.sureAddr, ren, renA, Sem.run_bind, Sem.run_pure, Result.andThen_ok, storeVar, size_run hs]
      rw [if_neg (by rw [hc]; simp)]
      rw [ren_cells]
      exact hr
    · cases hx
  · cases hx

/-! ### copy -/
def srcX (h : H) (size n : Nat) (x : Value) : Option (List Value) :=
  match x with
  | .slice (some ⟨b, o, none⟩) _ _ => h.read b o (n * size)
  | .slice none _ _ => some []
  | .string s => some ((s.extract 0 n).data.map fun b => Value.int .u8 b.toNat).toList
  | _ => none

def lenOfX (x : Value) : Option Nat :=
  match x with
  | .slice _ n _ => some n
  | .string s => some s.size
  | _ => none

theorem lenOf_run {P : Program} {ρ : Nat → Loc} {x : Value} {n : Nat} (h : lenOfX x = some n) (w : World) : (Builtin.lenOf (ren ρ x)).run P w = .ok n w := by
  unfold lenOfX at h
  split at h
  · rename_i a m c
    simp only [Option.some.injEq] at h; subst h
    cases a <;> simp [ren, Builtin.lenOf]
  · simp only [Option.some.injEq] at h; subst h
    simp [ren, Builtin.lenOf]
  · cases h

theorem src_run {P : Program} {ρ : Nat → Loc} {h : H} {w : World} {size n : Nat} {x : Value} {l : List Value} (s : Sim ρ h w) (hx : srcX h size n x = some l) :
    (Builtin.firstCells size n (ren ρ x)).run P w = .ok (l.map (ren ρ)).toArray w ∧ ∀ v, v ∈ l → ok h.size v = true := by
  unfold srcX at hx
  split at hx
  · rename_i b o m c
    refine ⟨?_, (s.read hx).2.1⟩
    simp only [ren, renA, Builtin.firstCells]
    exact cellsAt_run s hx
  · simp only [Option.some.injEq] at hx; subst hx
    simp [ren, Builtin.firstCells]
  · simp only [Option.some.injEq] at hx; subst hx
    refine ⟨?_, fun v hv => ok_free v (str_free _ v hv)⟩
    rw [map_free (str_free _)]
    simp only [ren, Builtin.firstCells, Sem.run_pure]
  · cases hx

def copyX (P : Program) (ts : Array TypeId) (args : Array Value) (h : H) : Option (Value × H) :=
  match ts[0]?, args[0]?, args[1]? with
  | some dt, some (Value.slice base dLen _), some src =>
    match P.underlying dt with
    | some (.slice e) =>
      match sizeB P e, lenOfX src with
      | some size, some sl =>
        match srcX h size (Nat.min sl dLen) src with
        | some cells =>
          match base with
          | none => some (goInt (Nat.min sl dLen), h)
          | some ⟨b, o, none⟩ => cond (cells.all cellB) (match h.write b o cells with
            | some h' => some (goInt (Nat.min sl dLen), h')
            | none => none) none
          | _ => none
        | none => none
      | _, _ => none
    | _ => none
  | _, _, _ => none

theorem copy_run {P : Program} {ρ : Nat → Loc} {h h' : H} {w : World} {ts : Array TypeId} {ty : TypeId} {args : Array Value} {v : Value} (s : Sim ρ h w) (hx : copyX P ts args h = some (v, h')) :
    Done P ρ h w ((Builtin.copy_ ts ty (args.map (ren ρ))).run P w) v h' := by
  unfold copyX at hx
  split at hx
  · rename_i dt base dLen c src h0 a0 a1
    split at hx
    · rename_i e hu
      split at hx
      · rename_i size sl hs hl
        split at hx
        · rename_i cells hc
          obtain ⟨hc1, hc2⟩ := src_run (P := P) s hc
          have A0 : (args.map (ren ρ))[0]? = some (ren ρ (.slice base dLen c)) := by rw [Array.getElem?_map, a0]; rfl
          have A1 : (args.map (ren ρ))[1]? = some (ren ρ src) := by rw [Array.getElem?_map, a1]; rfl
          split at hx
          · simp only [Option.some.injEq, Prod.mk.injEq] at hx
            obtain ⟨rfl, rfl⟩ := hx
            refine ⟨w, ρ, ?_, s, Step.refl _ _ _⟩
            simp only [ren] at A0
            unfold Builtin.copy_
            simp only [h0, A0, A1, Sem.run_bind, run_underlying hu, Result.andThen_ok, lenOf_run hl, size_run hs, hc1, Sem.run_pure]
            simp [goInt, ren]
          · rename_i b o
            obtain ⟨h1, hx1⟩ := cond_some hx
            split at hx1
            · rename_i h2 hw
              simp only [Option.some.injEq, Prod.mk.injEq] at hx1
              obtain ⟨rfl, rfl⟩ := hx1
              obtain ⟨w', hr, hsim, hst, _⟩ := write_run (P := P) s hw (fun v hv => ⟨hc2 v hv, List.all_eq_true.1 h1 v hv⟩)
              refine ⟨w', ρ, ?_, hsim, hst⟩
              simp only [ren, renA] at A0
              unfold Builtin.copy_
              simp only [h0, A0, A1, Sem.run_bind, run_underlying hu, Result.andThen_ok, lenOf_run hl, size_run hs, hc1, Sem.run_pure, hr]
              simp [goInt, ren]
            · cases hx1
          · cases hx
        · cases hx
      · cases hx
    · cases hx
  · cases hx

/-! ### conversions -/
def toInts : List Value → Option (List Int)
  | [] => some []
  | .int .u8 n :: l => match toInts l with
    | some r => some (n :: r)
    | none => none
  | _ => none

theorem toInts_eq : ∀ (l : List Value) (r : List Int), toInts l = some r → l = r.map (Value.int .u8)
  | [], r, h => by simp [toInts] at h; subst h; rfl
  | v :: l, r, h => by
    unfold toInts at h
    split at h
    · rename_i e; cases e
    · rename_i n l' e
      simp only [List.cons.injEq] at e
      obtain ⟨rfl, rfl⟩ := e
      split at h
      · rename_i r' hr
        simp only [Option.some.injEq] at h; subst h
        rw [toInts_eq l r' hr]; rfl
      · cases h
    · cases h

def convertX (P : Program) (sT dT : TypeId) (x : Value) (h : H) : Option (Value × H) :=
  match P.underlying sT, P.underlying dT, x with
  | some .string, some (.slice e), .string b =>
    match P.underlying e with
    | some (.int .u8) => some (.slice (some ⟨h.size, 0, none⟩) b.size (2 * b.size + 1), h.newCells (b.data.map fun x => Value.int .u8 x.toNat).toList b.size 1)
    | _ => none
  | some (.slice e), some .string, .slice (some ⟨b, o, none⟩) len _ =>
    match P.underlying e with
    | some (.int .u8) => match h.read b o len with
      | some l => match toInts l with
        | some ns => some (.string (ns.foldl (fun r n => r.push (UInt8.ofNat n.toNat)) ByteArray.empty), h)
        | none => none
      | none => none
    | _ => none
  | some (.slice _), some (.slice e), .slice (some ⟨b, o, none⟩) len c =>
    match P.underlying e, h.blks.get b with
    | some (.int .u8), some (.cells _ _ _ _ _) => cond (Nat.beq sT dT) (cond (Nat.ble roB b) (some (.slice (some ⟨b, o, none⟩) len c, h)) none) none
    | _, _ => none
  | _, _, _ => none

theorem stringish_run {P : Program} {w : World} {B o N : Nat} {C : Array Value} {el : TypeId} {fz : Nat × Nat} (hC : w.heap[B]? = some (.cells C el fz)) :
    (markStringish ⟨B, o, none⟩).run P w = .ok () (World.putB w B (.cells C el (if fz.1 == fz.2 then (C.size, C.size + 1) else (min fz.1 C.size, max fz.2 (C.size + 1))))) := by
  obtain ⟨hlt, hg⟩ := Array.getElem?_eq_some_iff.1 hC
  have hsh : w.shape? B = some (el, C.size) := by simp [World.shape?, hC]
  unfold markStringish
  simp only [Sem.run_bind, run_shape, hsh, Result.andThen_ok, run_freeze]
  congr 1
  unfold World.freeze World.putB
  rw [if_neg (by decide)]
  congr 1
  apply Array.ext_getElem?
  intro i
  rw [Array.getElem?_modify, Array.getElem?_setIfInBounds]
  obtain ⟨lo, hi⟩ := fz
  by_cases e : B = i
  · subst e; simp [hg, hlt]
  · simp [e]

theorem convert_run {P : Program} {ρ : Nat → Loc} {h h' : H} {w : World} {sT dT : TypeId} {x v : Value} (s : Sim ρ h w) (hx : convertX P sT dT x h = some (v, h')) :
    Done P ρ h w ((convert sT dT (ren ρ x)).run P w) v h' := by
  unfold convertX at hx
  split at hx
  · rename_i e b hs hd
    split at hx
    · rename_i hu
      simp only [Option.some.injEq, Prod.mk.injEq] at hx
      obtain ⟨rfl, rfl⟩ := hx
      have hcut : b.size ≤ Question.cut (.appendCap b.size 0 e) (w.tape w.drawn (.appendCap b.size 0 e)) := by simp only [Question.cut]; omega
      generalize hnc : Question.cut (.appendCap b.size 0 e) (w.tape w.drawn (.appendCap b.size 0 e)) = nc at hcut
      have hmf := map_free (ρ := ρ) (str_free b)
      have hbl : (b.data.map fun x => Value.int .u8 x.toNat).toList.length = b.size := by simp
      obtain ⟨f1, f2⟩ := fresh_row (e := e) (fz := (nc, nc + 1)) (d := w.drawn + 1) (k := b.size) (sz := 1) (nc := nc - b.size) (rest := Array.replicate (nc - b.size) (.int .u8 0)) s
        (fun v hv => ok_free v (str_free b v hv)) (.inr (by rw [hbl]; simp; omega)) (by rw [hbl]; simp)
      refine ⟨_, _, ?_, f1, f2⟩
      rw [hmf]
      simp only [ren, convert, Sem.run_bind, run_underlying hs, run_underlying hd, run_underlying hu, Result.andThen_ok, Conv.stringToBytes, run_choose, Question.forced, Bool.false_eq_true, if_false, newRow, run_newObj, Sem.run_pure]
      rw [hnc]
      rw [stringish_run (C := b.data.map (fun b => Value.int .u8 b.toNat) ++ Array.replicate (nc - b.size) (.int .u8 0)) (el := e) (fz := (0, 0)) (N := 0) (by simp)]
      simp only [Result.andThen_ok, Sem.run_pure, renA, ext_self, renC_inexact, beq_self_eq_true, if_true, Nat.add_zero]
      have h1 : b.size + (nc - b.size) = nc := by omega
      have h2 : (b.data.map (fun b => Value.int .u8 b.toNat) ++ Array.replicate (nc - b.size) (Value.int .u8 0)).size = nc := by
        simp only [Array.size_append, Array.size_map, Array.size_replicate]
        have : b.data.size = b.size := rfl
        omega
      rw [h1, h2]
      congr 1
      unfold World.putB
      simp only
      congr 1
      apply Array.ext_getElem?
      intro i
      rw [Array.getElem?_setIfInBounds, Array.getElem?_push]
      by_cases ei : w.heap.size = i
      · subst ei
        simp only [Array.size_push, Nat.lt_succ_self, if_true, Array.getElem?_push_size, Array.toArray_toList]
      · rw [if_neg ei, Array.getElem?_push, if_neg (Ne.symm ei), if_neg (Ne.symm ei)]
    · cases hx
  · rename_i e b o len c hs hd
    split at hx
    · rename_i hu
      split at hx
      · rename_i l hl
        split at hx
        · rename_i ns hns
          simp only [Option.some.injEq, Prod.mk.injEq] at hx
          obtain ⟨rfl, rfl⟩ := hx
          refine ⟨w, ρ, ?_, s, Step.refl _ _ _⟩
          have hl' := toInts_eq l ns hns
          have hload : (loadCells ⟨(ρ b).B, (ρ b).off + o, none⟩ len).run P w = .ok (ns.map (Value.int .u8)).toArray w := by
            rw [cellsAt_run s hl, hl', map_free (fun v hv => by obtain ⟨n, _, rfl⟩ := List.mem_map.1 hv; rfl)]
          simp only [ren, renA, convert, Sem.run_bind, run_underlying hs, run_underlying hd, run_underlying hu, Result.andThen_ok, run_bytesToString w _ _ _ ns hload]
        · cases hx
      · cases hx
    · cases hx
  · rename_i e0 e b o len c hs hd
    split at hx
    · rename_i cs co g k sz hu hb
      obtain ⟨h1, hx⟩ := cond_some hx
      obtain ⟨h2, hx⟩ := cond_some hx
      have h1 := nbeq_true h1
      have h2 := nble_true h2
      simp only [Option.some.injEq, Prod.mk.injEq] at hx
      obtain ⟨rfl, rfl⟩ := hx
      subst h1
      obtain ⟨hcok, C, el, fz, hC, hcs, hfz, hk⟩ := s.obj b _ hb
      have hlt := (Array.getElem?_eq_some_iff.1 hC).1
      have hfz' : FzOK C.size (if fz.1 == fz.2 then (C.size, C.size + 1) else (min fz.1 C.size, max fz.2 (C.size + 1))) := by
        split
        · exact .inr (Nat.le_refl _)
        · rename_i hne
          rcases hfz with hfz | hfz
          · rw [hfz] at hne; simp at hne
          · exact .inr (by simp only; omega)
      have hee : e0 = e := by rw [hs] at hd; simpa using hd
      subst hee
      refine ⟨World.putB w (ρ b).B (.cells C el (if fz.1 == fz.2 then (C.size, C.size + 1) else (min fz.1 C.size, max fz.2 (C.size + 1)))), ρ, ?_, ⟨s.lt, fun y ky e' => ?_, s.sep, s.grp, s.gsz, s.glob, s.big⟩, ⟨Agree.refl _ _, Nat.le_refl _, rfl, rfl, rfl, by simp [World.putB], fun B hB ho => ?_, fun _ _ _ _ ho => ho⟩⟩
      · simp only [ren, renA, convert, Sem.run_bind, run_underlying hs, run_underlying hu, Result.andThen_ok, beq_self_eq_true]
        rw [stringish_run (N := 0) hC]
        rfl
      · have hy := s.obj y ky e'
        by_cases hB : (ρ y).B = (ρ b).B
        · cases ky with
          | cells cs' co' g' k' sz' =>
            obtain ⟨hok', C2, el2, fz2, hC2, hcs2, hfz2, hk2⟩ := hy
            rw [hB, hC] at hC2
            simp only [Option.some.injEq, Obj.cells.injEq] at hC2
            obtain ⟨rfl, rfl, rfl⟩ := hC2
            exact ⟨hok', C, el, _, by rw [hB, putB_get hlt]; simp, hcs2, hfz', hk2⟩
          | map es c => have := hy.2; rw [hB, hC] at this; cases this
          | siter a b => have := hy.2; rw [hB, hC] at this; cases this
          | miter a b c d => have := hy.2.2; rw [hB, hC] at this; cases this
        · exact hy.mono (Agree.refl _ _) (Nat.le_refl _) (fun o' ho' => by rw [putB_get hlt, if_neg hB]; exact ho')
      · rw [putB_get hlt, if_neg (fun e => ho b _ h2 hb e.symm)]
    · cases hx
  · cases hx


/-! ### maps and iterators -/
theorem getObj_run {P : Program} {w : World} {r : Nat} {o : Obj} (h : w.heap[r]? = some o) (hc : ∀ c e f, o ≠ .cells c e f) : (getObj r).run P w = .ok o w := by
  cases o with
  | cells c e f => exact absurd rfl (hc c e f)
  | _ => simp only [getObj, Sem.run, h]

theorem setObj_run {P : Program} {w : World} {r : Nat} {o o' : Obj} (h : w.heap[r]? = some o) (hc : ∀ c e f, o ≠ .cells c e f) : (setObj r o').run P w = .ok () (World.putB w r o') := by
  cases o with
  | cells c e f => exact absurd rfl (hc c e f)
  | _ => simp only [setObj, Sem.run, h, World.putB]

theorem ba_eq {a b : ByteArray} (h : (a == b) = true) : a = b := by
  have : a.data = b.data := by
    have h' : ByteArray.beq a b = true := h
    unfold ByteArray.beq at h'
    exact eq_of_beq h'
  cases a; cases b; simp_all
theorem ba_refl (a : ByteArray) : (a == a) = true := by
  show ByteArray.beq a a = true
  unfold ByteArray.beq
  simp

def keyOk (kd : TypeDesc) (k : Value) : Bool :=
  match kd, k with
  | .int _, .int _ _ => true
  | .string, .string _ => true
  | _, _ => false

theorem keyOk_free {kd : TypeDesc} {k : Value} (h : keyOk kd k = true) : free k = true := by
  unfold keyOk at h
  split at h <;> first | rfl | cases h

theorem checkKey_run' {P : Program} {kt : TypeId} {kd : TypeDesc} {k : Value} {e : Bool} (hu : P.underlying kt = some kd) (h : keyOk kd k = true) (n : Nat) (w : World) : (Instr.checkKey e (n + 1) kt k).run P w = .ok () w := by
  simp only [Instr.checkKey, Sem.run_bind, run_underlying hu, Result.andThen_ok]
  unfold keyOk at h
  split at h <;> first | rfl | cases h

theorem checkKey_run {P : Program} {kt : TypeId} {kd : TypeDesc} {k : Value} {e : Bool} (hu : P.underlying kt = some kd) (h : keyOk kd k = true) (w : World) : (Instr.checkKey e 10000 kt k).run P w = .ok () w :=
  checkKey_run' hu h 9999 w

theorem findNow_ren {ρ : Nat → Loc} {kd : TypeDesc} {k : Value} : ∀ (es : List MapEntry) (i : Nat) (r : Option (Nat × Value)), Instr.findNow kd k es i = some r →
    Instr.findNow kd k (es.map (renE ρ)) i = some (r.map fun p => (p.1, ren ρ p.2))
  | [], i, r, h => by simp only [Instr.findNow, Option.some.injEq] at h; subst h; rfl
  | e :: es, i, r, h => by
    simp only [List.map_cons]
    rw [Instr.findNow] at h ⊢
    have hke : (renE ρ e).key = e.key := rfl
    rw [hke]
    split at h
    · rename_i hn
      simp only [Option.some.injEq] at h; subst h
      rfl
    · rename_i hn
      exact findNow_ren es (i + 1) r h
    · cases h

theorem findNow_at {kd : TypeDesc} {k : Value} : ∀ (es : List MapEntry) (i j : Nat) (v : Value), Instr.findNow kd k es i = some (some (j, v)) →
    i ≤ j ∧ ∃ e, es[j - i]? = some e ∧ e.val = v ∧ Instr.sameNow kd k e.key = some true
  | [], i, j, v, h => by simp [Instr.findNow] at h
  | e :: es, i, j, v, h => by
    unfold Instr.findNow at h
    split at h
    · rename_i hn
      simp only [Option.some.injEq, Prod.mk.injEq] at h
      obtain ⟨rfl, rfl⟩ := h
      exact ⟨Nat.le_refl _, e, by simp, rfl, hn⟩
    · obtain ⟨h1, e', h2, h3, h4⟩ := findNow_at es (i + 1) j v h
      refine ⟨by omega, e', ?_, h3, h4⟩
      rw [show j - i = (j - (i + 1)) + 1 from by omega]
      simpa using h2
    · cases h

theorem sameNow_bits {kd : TypeDesc} {k k' : Value} (hk : keyOk kd k = true) (h : Instr.sameNow kd k k' = some true) (n : Nat) : Instr.sameBits n k' k = true := by
  unfold keyOk at hk
  split at hk
  · rename_i ik k0 n0
    cases k' <;> simp [Instr.sameNow] at h
    rename_i k1 n1
    obtain ⟨rfl, rfl⟩ := h
    simp [Instr.sameBits]
  · cases k' <;> simp [Instr.sameNow] at h
    have := ba_eq h
    subst this
    simp [Instr.sameBits, ba_refl]
  · cases hk

def lookupX (P : Program) (t : TypeId) (m k : Value) (okk : Bool) (h : H) : Option Value :=
  match P.underlying t with
  | some (.map kt et) =>
    match P.underlying kt with
    | some kd => cond (keyOk kd k)
      (match m with
       | .map none => match zeroB P et with
         | some z => some (cond okk (.tuple #[z, .bool false]) z)
         | none => none
       | .map (some r) => match h.blks.get r with
         | some (.map es _) => match Instr.findNow kd k es 0 with
           | some (some (_, v)) => some (cond okk (.tuple #[v, .bool true]) v)
           | some none => match zeroB P et with
             | some z => some (cond okk (.tuple #[z, .bool false]) z)
             | none => none
           | none => none
         | _ => none
       | _ => none) none
    | none => none
  | _ => none

theorem findKey_run {P : Program} {kt : TypeId} {kd : TypeDesc} {k : Value} {es : List MapEntry} {r : Option (Nat × Value)} (hu : P.underlying kt = some kd) (h : Instr.findNow kd k es 0 = some r) (w : World) :
    (Instr.findKey kt k es).run P w = .ok r w := by
  simp only [Instr.findKey, Sem.run_bind, run_underlying hu, Result.andThen_ok, h, Sem.run_pure]

theorem ren_key {ρ : Nat → Loc} {kd : TypeDesc} {k : Value} (h : keyOk kd k = true) : ren ρ k = k := ren_free ρ k (keyOk_free h)

theorem lookup_run {P : Program} {ρ : Nat → Loc} {h : H} {w : World} {t : TypeId} {m k v : Value} {okk : Bool} (s : Sim ρ h w) (hx : lookupX P t m k okk h = some v) :
    (Instr.lookup t (ren ρ m) (ren ρ k) okk).run P w = .ok (ren ρ v) w := by
  have zfin : ∀ z, free z = true → (if okk = true then Value.tuple #[z, .bool false] else z) = ren ρ (cond okk (.tuple #[z, .bool false]) z) := fun z hz => by
    cases okk
    · simp [ren_free ρ z hz]
    · simp [ren, renArr, renL, ren_free ρ z hz]
  unfold lookupX at hx
  split at hx
  · rename_i kt et hu
    split at hx
    · rename_i kd hk
      obtain ⟨h1, hx1⟩ := cond_some hx
      rw [ren_key h1]
      split at hx1
      · split at hx1
        · rename_i z hz
          simp only [Option.some.injEq] at hx1; subst hx1
          obtain ⟨hzr, hzf⟩ := zero_run hz w
          simp only [Instr.lookup, ren, Sem.run_bind, run_underlying hu, Result.andThen_ok, Sem.run_pure, checkKey_run hk h1]
          rw [show (Instr.findKey kt k (#[] : Array MapEntry).toList).run P w = .ok none w from findKey_run hk rfl w]
          simp only [Result.andThen_ok, Sem.run_bind, hzr, Sem.run_pure]
          rw [zfin z hzf]
        · cases hx1
      · rename_i r
        split at hx1
        · rename_i es clock hb
          obtain ⟨hes, hobj⟩ := s.obj r _ hb
          have hg := getObj_run (P := P) hobj (by intro _ _ _ e; cases e)
          split at hx1
          · rename_i j v' hf
            simp only [Option.some.injEq] at hx1; subst hx1
            have hf' := findNow_ren (ρ := ρ) es 0 _ hf
            simp only [Instr.lookup, ren, Sem.run_bind, run_underlying hu, Result.andThen_ok, Sem.run_pure, hg, checkKey_run hk h1]
            rw [show (Instr.findKey kt k (es.map (renE ρ)).toArray.toList).run P w = _ from findKey_run hk hf' w]
            simp only [Result.andThen_ok, Option.map_some, Sem.run_pure]
            cases okk <;> simp [ren, renArr, renL]
          · rename_i hf
            split at hx1
            · rename_i z hz
              simp only [Option.some.injEq] at hx1; subst hx1
              obtain ⟨hzr, hzf⟩ := zero_run hz w
              have hf' := findNow_ren (ρ := ρ) es 0 _ hf
              simp only [Instr.lookup, ren, Sem.run_bind, run_underlying hu, Result.andThen_ok, Sem.run_pure, hg, checkKey_run hk h1]
              rw [show (Instr.findKey kt k (es.map (renE ρ)).toArray.toList).run P w = _ from findKey_run hk hf' w]
              simp only [Result.andThen_ok, Option.map_none, Sem.run_bind, hzr, Sem.run_pure]
              rw [zfin z hzf]
            · cases hx1
          · cases hx1
        · cases hx1
      · cases hx1
    · cases hx
  · cases hx

def updateX (P : Program) (t : TypeId) (m k v : Value) (h : H) : Option H :=
  match P.underlying t, m with
  | some (.map kt _), .map (some r) =>
    match P.underlying kt with
    | some kd => cond (keyOk kd k) (cond (Nat.ble roB r) (cond (ok h.size v)
      (match h.blks.get r with
       | some (.map es clock) => match Instr.findNow kd k es 0 with
         | some (some (i, _)) => some (h.put r (.map (es.modify i fun (e : MapEntry) => ({ key := k, val := v, born := e.born } : MapEntry)) clock))
         | some none => some (h.put r (.map (es ++ [({ key := k, val := v, born := clock } : MapEntry)]) (clock + 1)))
         | none => none
       | _ => none) none) none) none
    | none => none
  | _, _ => none

theorem modify_map {α β : Type} (f : α → β) (g : α → α) (g' : β → β) (hg : ∀ a, f (g a) = g' (f a)) : ∀ (l : List α) (i : Nat), (l.modify i g).map f = (l.map f).modify i g'
  | [], i => by cases i <;> rfl
  | a :: l, 0 => by simp [hg]
  | a :: l, i + 1 => by simp [modify_map f g g' hg l i]

theorem update_run {P : Program} {ρ : Nat → Loc} {h h' : H} {w : World} {t : TypeId} {m k v : Value} (s : Sim ρ h w) (hx : updateX P t m k v h = some h') :
    ∃ w', (Instr.mapUpdate t (ren ρ m) (ren ρ k) (ren ρ v)).run P w = .ok () w' ∧ Sim ρ h' w' ∧ Step ρ h w ρ h' w' := by
  unfold updateX at hx
  split at hx
  · rename_i kt et r hu
    split at hx
    · rename_i kd hk
      obtain ⟨h1, hx1⟩ := cond_some hx
      obtain ⟨h2, hx2⟩ := cond_some hx1
      obtain ⟨h3, hx3⟩ := cond_some hx2
      have h2 := nble_true h2
      rw [ren_key h1]
      split at hx3
      · rename_i es clock hb
        obtain ⟨hes, hobj⟩ := s.obj r _ hb
        have hnc : ∀ c e f, (Obj.map (es.map (renE ρ)).toArray clock) ≠ .cells c e f := by intro _ _ _ e; cases e
        have hg := getObj_run (P := P) hobj hnc
        split at hx3
        · rename_i j v' hf
          simp only [Option.some.injEq] at hx3; subst hx3
          have hf' := findNow_ren (ρ := ρ) es 0 _ hf
          obtain ⟨_, e0, he0, _, hsame⟩ := findNow_at _ _ _ _ hf
          simp only [Nat.sub_zero] at he0
          have hbits : Instr.sameBits 10000 (((((es.map (renE ρ)).toArray)[j]?).map (·.key)).getD k) k = true := by
            simp only [List.getElem?_toArray, List.getElem?_map, he0, Option.map_some, Option.getD_some, renE]
            exact sameNow_bits h1 hsame _
          have hmod : ((es.map (renE ρ)).toArray.modify j fun e => { e with key := k, val := ren ρ v }) = ((es.modify j fun (e : MapEntry) => ({ key := k, val := v, born := e.born } : MapEntry)).map (renE ρ)).toArray := by
            rw [modify_map (renE ρ) (fun (e : MapEntry) => ({ key := k, val := v, born := e.born } : MapEntry)) (fun (e : MapEntry) => { e with key := k, val := ren ρ v }) (fun _ => rfl)]
            simp
          have hpk := put_sim (k' := .map (es.modify j fun (e : MapEntry) => ({ key := k, val := v, born := e.born } : MapEntry)) clock) (o := .map ((es.modify j fun (e : MapEntry) => ({ key := k, val := v, born := e.born } : MapEntry)).map (renE ρ)).toArray clock) s hb h2 rfl rfl
            ⟨fun e he => by
              have : e ∈ es ∨ e.key = k ∧ e.val = v := by
                rw [List.mem_iff_getElem?] at he
                obtain ⟨i, hi⟩ := he
                rw [List.getElem?_modify] at hi
                cases hei : es[i]? with
                | none => rw [hei] at hi; cases hi
                | some e1 =>
                  rw [hei] at hi
                  simp only [Option.map_eq_map, Option.map_some, Option.some.injEq] at hi
                  split at hi
                  · subst hi; exact .inr ⟨rfl, rfl⟩
                  · subst hi; exact .inl (List.mem_of_getElem? hei)
              rcases this with h | h
              · exact hes e h
              · rw [h.1, h.2]; exact ⟨keyOk_free h1, h3⟩, by rw [putB_get (s.block_lt hb)]; simp⟩
          refine ⟨_, ?_, hpk.1, hpk.2⟩
          simp only [Instr.mapUpdate, ren, Sem.run_bind, run_underlying hu, Result.andThen_ok, hg, checkKey_run hk h1]
          rw [show (Instr.findKey kt k (es.map (renE ρ)).toArray.toList).run P w = _ from findKey_run hk hf' w]
          simp only [Result.andThen_ok, Option.map_some, Instr.keyThatStays, hbits, if_true, Sem.run_bind, Sem.run_pure]
          rw [hmod, setObj_run hobj hnc]
        · rename_i hf
          simp only [Option.some.injEq] at hx3; subst hx3
          have hf' := findNow_ren (ρ := ρ) es 0 _ hf
          have hpk := put_sim (k' := .map (es ++ [({ key := k, val := v, born := clock } : MapEntry)]) (clock + 1)) (o := .map ((es ++ [({ key := k, val := v, born := clock } : MapEntry)]).map (renE ρ)).toArray (clock + 1)) s hb h2 rfl rfl
            ⟨fun e he => by
              rcases List.mem_append.1 he with h | h
              · exact hes e h
              · simp only [List.mem_singleton] at h; subst h; exact ⟨keyOk_free h1, h3⟩, by rw [putB_get (s.block_lt hb)]; simp⟩
          refine ⟨_, ?_, hpk.1, hpk.2⟩
          simp only [Instr.mapUpdate, ren, Sem.run_bind, run_underlying hu, Result.andThen_ok, hg, checkKey_run hk h1]
          rw [show (Instr.findKey kt k (es.map (renE ρ)).toArray.toList).run P w = _ from findKey_run hk hf' w]
          simp only [Result.andThen_ok, Option.map_none]
          rw [setObj_run hobj hnc]
          simp [renE]
        · cases hx3
      · cases hx3
    · cases hx
  · cases hx


def rangeX (P : Program) (t : TypeId) (x : Value) (h : H) : Option Blk :=
  match P.underlying t, x with
  | some .string, .string s => some (.siter s 0)
  | some (.map _ _), .map none => some (.miter none 0 [] 0)
  | some (.map _ _), .map (some m) => match h.blks.get m with
    | some (.map _ clock) => some (.miter (some m) clock [] clock)
    | _ => none
  | _, _ => none

theorem range_run {P : Program} {ρ : Nat → Loc} {h : H} {w : World} {t : TypeId} {x : Value} {k : Blk} (s : Sim ρ h w) (hx : rangeX P t x h = some k) :
    Done P ρ h w ((Instr.range t (ren ρ x)).run P w) (.pointer (some ⟨h.size, 0, none⟩)) (h.new k) := by
  have key : ∀ (k : Blk) (o : Obj), k.own h.size → BlkOK (ext ρ h.size ⟨w.heap.size, 0, 0⟩) (h.size + 1) ⟨w.heap.size, 0, 0⟩ { w with heap := w.heap.push o } k →
      (Instr.range t (ren ρ x)).run P w = .ok (.pointer (some ⟨w.heap.size, 0, none⟩)) { w with heap := w.heap.push o } →
      Done P ρ h w ((Instr.range t (ren ρ x)).run P w) (.pointer (some ⟨h.size, 0, none⟩)) (h.new k) := by
    intro k o ho hk hr
    obtain ⟨a, b⟩ := new_sim s ho hk
    exact ⟨_, _, by rw [hr]; simp [ren, renA, ext_self], a, b⟩
  unfold rangeX at hx
  split at hx
  · rename_i b hu
    simp only [Option.some.injEq] at hx; subst hx
    exact key _ (.stringIter b 0) trivial ⟨rfl, by simp⟩ (by simp [Instr.range, ren, run_underlying hu])
  · rename_i a b hu
    simp only [Option.some.injEq] at hx; subst hx
    exact key _ (.mapIter none 0 #[] 0) trivial ⟨rfl, by simp, by simp⟩ (by simp [Instr.range, ren, run_underlying hu])
  · rename_i a b m hu
    split at hx
    · rename_i es clock hb
      simp only [Option.some.injEq] at hx; subst hx
      obtain ⟨hes, hobj⟩ := s.obj m _ hb
      have hg := getObj_run (P := P) hobj (by intro _ _ _ e; cases e)
      have hlt := s.lt m _ hb
      refine key _ (.mapIter (some (ρ m).B) clock #[] clock) trivial ⟨rfl, fun r hr => ?_, ?_⟩ ?_
      · simp only [Option.some.injEq] at hr; omega
      · simp only [Array.getElem?_push_size, Option.map_some, ext_agree ρ h.size _ m hlt]
      · simp [Instr.range, ren, run_underlying hu, hg]
    · cases hx
  · cases hx

def nextX (it : Value) (isString : Bool) (h : H) : Option (Value × H) :=
  match it with
  | .pointer (some ⟨r, 0, none⟩) =>
    cond (Nat.ble roB r)
    (match h.blks.get r, isString with
    | some (.siter s pos), true =>
      cond (Nat.blt pos s.size)
        (some (.tuple #[.bool true, goInt pos, .int .i32 (Utf8.decode s pos).1], h.put r (.siter s (pos + (Utf8.decode s pos).2))))
        (some (.tuple #[.bool false], h))
    | some (.miter none _ _ _), false => some (.tuple #[.bool false], h)
    | some (.miter (some m) since [] last), false =>
      match h.blks.get m with
      | some (.map [] _) => some (.tuple #[.bool false], h)
      | some (.map [e] clock) => cond (Nat.blt e.born since)
          (some (.tuple #[.bool true, e.key, e.val], h.put r (.miter (some m) since [e.born] clock))) none
      | _ => none
    | some (.miter (some m) since [b] last), false =>
      match h.blks.get m with
      | some (.map [e] clock) => cond (Nat.beq e.born b) (cond (Nat.blt e.born last) (some (.tuple #[.bool false], h)) none) none
      | _ => none
    | _, _ => none) none
  | _ => none

theorem next_run {P : Program} {ρ : Nat → Loc} {h h' : H} {w : World} {it v : Value} {b : Bool} {ty : TypeId} (s : Sim ρ h w) (hx : nextX it b h = some (v, h')) :
    Done P ρ h w ((Instr.next (ren ρ it) b ty).run P w) v h' := by
  unfold nextX at hx
  split at hx
  · rename_i r
    obtain ⟨hro, hx1⟩ := cond_some hx
    have hro := nble_true hro
    split at hx1
    · rename_i st pos hb
      obtain ⟨hoff, hobj⟩ := s.obj r _ hb
      have hnc : ∀ c e f, (Obj.stringIter st pos) ≠ .cells c e f := by intro _ _ _ e; cases e
      have hg := getObj_run (P := P) hobj hnc
      cases hlt : Nat.blt pos st.size with
      | true =>
        rw [hlt] at hx1
        have hlt := blt_true.1 hlt
        simp only [cond_true, Option.some.injEq, Prod.mk.injEq] at hx1
        obtain ⟨rfl, rfl⟩ := hx1
        have hpk := put_sim (k' := .siter st (pos + (Utf8.decode st pos).2)) (o := .stringIter st (pos + (Utf8.decode st pos).2)) s hb hro rfl rfl ⟨hoff, by rw [putB_get (s.block_lt hb)]; simp⟩
        refine ⟨_, ρ, ?_, hpk.1, hpk.2⟩
        simp only [Instr.next, ren, renA, hoff, Nat.add_zero, Sem.run_bind, Sem.run_pure, hg, Result.andThen_ok]
        rw [if_pos hlt]
        simp only [Sem.run_bind, setObj_run hobj hnc, Result.andThen_ok, Sem.run_pure]
        simp [renArr, renL, ren, goInt]
      | false =>
        rw [hlt] at hx1
        simp only [cond_false, Option.some.injEq, Prod.mk.injEq] at hx1
        obtain ⟨rfl, rfl⟩ := hx1
        have hge : ¬ pos < st.size := fun e => by rw [blt_true.2 e] at hlt; cases hlt
        refine ⟨w, ρ, ?_, s, Step.refl _ _ _⟩
        simp only [Instr.next, ren, renA, hoff, Nat.add_zero, Sem.run_bind, Sem.run_pure, hg, Result.andThen_ok]
        rw [if_neg hge]
        simp [renArr, renL, ren]
    · rename_i a1 a2 a3 hb
      simp only [Option.some.injEq, Prod.mk.injEq] at hx1
      obtain ⟨rfl, rfl⟩ := hx1
      obtain ⟨hoff, _, hobj⟩ := s.obj r _ hb
      have hg := getObj_run (P := P) hobj (by intro _ _ _ e; cases e)
      refine ⟨w, ρ, ?_, s, Step.refl _ _ _⟩
      simp only [Instr.next, ren, renA, hoff, Nat.add_zero, Sem.run_bind, Sem.run_pure, hg, Result.andThen_ok, Option.map_none]
      simp [renArr, renL, ren]
    · rename_i m since last hb
      obtain ⟨hoff, hmlt, hobj⟩ := s.obj r _ hb
      have hnc : ∀ c e f, (Obj.mapIter ((some m).map fun r => (ρ r).B) since (([] : List Nat)).toArray last) ≠ .cells c e f := by intro _ _ _ e; cases e
      have hg := getObj_run (P := P) hobj hnc
      split at hx1
      · rename_i clock hm
        simp only [Option.some.injEq, Prod.mk.injEq] at hx1
        obtain ⟨rfl, rfl⟩ := hx1
        obtain ⟨_, hmo⟩ := s.obj m _ hm
        have hgm := getObj_run (P := P) hmo (by intro _ _ _ e; cases e)
        refine ⟨w, ρ, ?_, s, Step.refl _ _ _⟩
        simp only [Instr.next, ren, renA, hoff, Nat.add_zero, Sem.run_bind, Sem.run_pure, hg, Result.andThen_ok, Option.map_some, hgm]
        have he : (List.map (renE ρ) ([] : List MapEntry)).toArray = #[] := rfl
        have hf : ∀ p : MapEntry → Bool, Array.filter p #[] = #[] := fun p => rfl
        rw [he, hf, hf, hf]
        simp [renArr, renL, ren, Question.forced]
      · rename_i e clock hm
        obtain ⟨h1, hx2⟩ := cond_some hx1
        have h1 := blt_true.1 h1
        simp only [Option.some.injEq, Prod.mk.injEq] at hx2
        obtain ⟨rfl, rfl⟩ := hx2
        obtain ⟨hes, hmo⟩ := s.obj m _ hm
        have hgm := getObj_run (P := P) hmo (by intro _ _ _ e; cases e)
        have hkf := (hes e (by simp)).1
        have hpk := put_sim (k' := .miter (some m) since [e.born] clock) (o := .mapIter (some (ρ m).B) since #[e.born] clock) s hb hro rfl rfl ⟨hoff, hmlt, by rw [putB_get (s.block_lt hb)]; simp⟩
        refine ⟨_, ρ, ?_, hpk.1, hpk.2⟩
        simp only [Instr.next, ren, renA, hoff, Nat.add_zero, Sem.run_bind, Sem.run_pure, hg, Result.andThen_ok, Option.map_some, hgm]
        simp only [Option.map_some] at hobj hnc
        simp [renArr, renL, ren, renE, Question.forced, h1, Nat.not_le.2 h1, setObj_run hobj hnc, ren_free ρ _ hkf]
      · cases hx1
    · rename_i m since b last hb
      obtain ⟨hoff, hmlt, hobj⟩ := s.obj r _ hb
      have hnc : ∀ c e f, (Obj.mapIter ((some m).map fun r => (ρ r).B) since (([b] : List Nat)).toArray last) ≠ .cells c e f := by intro _ _ _ e; cases e
      have hg := getObj_run (P := P) hobj hnc
      split at hx1
      · rename_i e clock hm
        obtain ⟨h1, hx2⟩ := cond_some hx1
        obtain ⟨h2, hx3⟩ := cond_some hx2
        have h1 := nbeq_true h1
        have h2 := blt_true.1 h2
        simp only [Option.some.injEq, Prod.mk.injEq] at hx3
        obtain ⟨rfl, rfl⟩ := hx3
        obtain ⟨hes, hmo⟩ := s.obj m _ hm
        have hgm := getObj_run (P := P) hmo (by intro _ _ _ e; cases e)
        refine ⟨w, ρ, ?_, s, Step.refl _ _ _⟩
        simp only [Instr.next, ren, renA, hoff, Nat.add_zero, Sem.run_bind, Sem.run_pure, hg, Result.andThen_ok, Option.map_some, hgm]
        simp [renArr, renL, ren, renE, Question.forced, h1, Nat.not_le.2 (h1 ▸ h2)]
      · cases hx1
    · cases hx1
  · cases hx

def findBorn (n : Nat) : List MapEntry → Option MapEntry
  | [] => none
  | e :: l => cond (Nat.beq e.born n) (some e) (findBorn n l)

def entryX (it : Value) (h : H) : Option Value :=
  match it with
  | .pointer (some ⟨r, 0, none⟩) =>
    match h.blks.get r with
    | some (.miter (some m) _ [stamp] stepped) =>
      match h.blks.get m with
      | some (.map [e] clock) => cond (Nat.beq clock stepped) (cond (Nat.beq e.born stamp) (some (.tuple #[e.key, e.val])) none) none
      | _ => none
    | _ => none
  | _ => none

theorem entry_run {P : Program} {ρ : Nat → Loc} {h : H} {w : World} {it v : Value} (s : Sim ρ h w) (hx : entryX it h = some v) :
    (Instr.entry (ren ρ it)).run P w = .ok (ren ρ v) w := by
  unfold entryX at hx
  split at hx
  · rename_i r
    split at hx
    · rename_i m since stamp stepped hb
      split at hx
      · rename_i e clock hm
        obtain ⟨h1, hx2⟩ := cond_some hx
        obtain ⟨h2, hx3⟩ := cond_some hx2
        have h1 := nbeq_true h1
        have h2 := nbeq_true h2
        simp only [Option.some.injEq] at hx3; subst hx3
        obtain ⟨hoff, _, hobj⟩ := s.obj r _ hb
        have hg := getObj_run (P := P) hobj (by intro _ _ _ e; cases e)
        obtain ⟨hes, hmo⟩ := s.obj m _ hm
        have hgm := getObj_run (P := P) hmo (by intro _ _ _ e; cases e)
        have hkf := (hes e (by simp)).1
        simp only [Instr.entry, ren, renA, hoff, Nat.add_zero, Sem.run_bind, Sem.run_pure, hg, Result.andThen_ok, Option.map_some, hgm]
        simp [h1, h2, hgm, renE, renArr, renL, ren_free ρ _ hkf]
      · cases hx
    · cases hx
  · cases hx

/-- clear of a map -/
def clearX (P : Program) (ts : Array TypeId) (args : Array Value) (h : H) : Option (Value × H) :=
  match ts[0]?, args[0]? with
  | some t, some (Value.map (some r)) => match P.underlying t with
    | some (TypeDesc.map _ _) => cond (Nat.ble roB r) (match h.blks.get r with
      | some (.map _ clock) => some (.tuple #[], h.put r (.map [] clock))
      | _ => none) none
    | _ => none
  | _, _ => none

theorem clear_run {P : Program} {ρ : Nat → Loc} {h h' : H} {w : World} {ts : Array TypeId} {ty : TypeId} {args : Array Value} {v : Value} (s : Sim ρ h w) (hx : clearX P ts args h = some (v, h')) :
    Done P ρ h w ((Builtin.clear_ ts ty (args.map (ren ρ))).run P w) v h' := by
  unfold clearX at hx
  split at hx
  · rename_i t r h0 a0
    split at hx
    · rename_i kt et hu
      obtain ⟨h1, hx1⟩ := cond_some hx
      have h1 := nble_true h1
      split at hx1
      · rename_i es clock hb
        simp only [Option.some.injEq, Prod.mk.injEq] at hx1
        obtain ⟨rfl, rfl⟩ := hx1
        obtain ⟨hes, hobj⟩ := s.obj r _ hb
        have hnc : ∀ c e f, (Obj.map (es.map (renE ρ)).toArray clock) ≠ .cells c e f := by intro _ _ _ e; cases e
        have A0 : (args.map (ren ρ))[0]? = some (.map (some (ρ r).B)) := by rw [Array.getElem?_map, a0]; simp [ren]
        have hpk := put_sim (k' := .map [] clock) (o := .map #[] clock) s hb h1 rfl rfl ⟨by simp, by rw [putB_get (s.block_lt hb)]; simp⟩
        refine ⟨_, ρ, ?_, hpk.1, hpk.2⟩
        unfold Builtin.clear_
        simp only [h0, A0, Sem.run_bind, run_underlying hu, Result.andThen_ok, getObj_run hobj hnc, setObj_run hobj hnc, Sem.run_pure]
        simp [ren, renArr, renL]
      · cases hx1
    · cases hx
  · cases hx

end
end Go.AX

namespace Go.AX
noncomputable section
open Go

def goFn (P : Program) (f : FuncId) : Bool :=
  match P.funcs[f]? with
  | some fn => fn.body.isSome
  | none => false

/-- no function of the program is the one that counts goroutines -/
def NoNum (P : Program) : Prop := ∀ (f : FuncId) (fn : Func), P.funcs[f]? = some fn → (fn.name == "runtime.NumGoroutine") = false

/-- 0: asks nothing of the heap; 1: a load; 2: a new row; 3: all others -/
def kind (P : Program) : Op → Nat
  | .load _ _ => 1
  | .alloc _ => 2
  | .box _ _ => 2
  | .buildSlice _ _ _ => 2
  | .makeSlice _ _ _ => 2
  | .move _ => 0
  | .assign _ => 0
  | .pick _ _ _ => 0
  | .build _ _ => 0
  | .nilCheck _ => 0
  | .fieldAddr _ _ _ => 0
  | .indexAddr _ _ _ => 0
  | .extract _ _ => 0
  | .makeInterface _ _ => 0
  | .makeFunc _ _ _ => 0
  | .field _ _ _ => 0
  | .slice _ _ _ _ _ => 0
  | .index _ _ _ => 0
  | .binOp _ _ _ _ _ => 0
  | .unOp _ _ _ => 0
  | .convert _ d _ => match P.underlying d with
    | some (.int _) => 0
    | _ => 3
  | .call { callee := .builtin b, .. } => match b with
    | .len => 0
    | .cap => 0
    | .max => 0
    | .min => 0
    | _ => 3
  | _ => 3

def undefV : Value := .tuple #[]

def mapLenX (P : Program) (ts : Array TypeId) (args : Array Value) (h : H) : Option Value :=
  match ts[0]?, args[0]? with
  | some t, some (Value.map (some r)) => match P.underlying t, h.blks.get r with
    | some (.map _ _), some (.map es _) => some (goInt es.length)
    | _, _ => none
  | _, _ => none

def heavyX (P : Program) (tm : Operand → Value) (o : Oper) (h : H) : Option (Value × H) :=
  match o.op with
  | .store t a x => match storeX P t (tm a) (tm x) h with
    | some h' => some (undefV, h')
    | none => none
  | .makeMap _ none => some (.map (some h.size), h.new (.map [] 0))
  | .makeMap t (some r) => match P.underlying t, tm r with
    | some (.map _ _), .int _ _ => some (.map (some h.size), h.new (.map [] 0))
    | _, _ => none
  | .lookup t m k b => match lookupX P t (tm m) (tm k) b h with
    | some v => some (v, h)
    | none => none
  | .mapUpdate t m k v => match updateX P t (tm m) (tm k) (tm v) h with
    | some h' => some (undefV, h')
    | none => none
  | .insert t m k v => match updateX P t (tm m) (tm k) (tm v) h with
    | some h' => some (undefV, h')
    | none => none
  | .range t x => match rangeX P t (tm x) h with
    | some k => some (.pointer (some ⟨h.size, 0, none⟩), h.new k)
    | none => none
  | .next it b => nextX (tm it) b h
  | .entry it => match entryX (tm it) h with
    | some v => some (v, h)
    | none => none
  | .convert a b x => convertX P a b (tm x) h
  | .call { callee := .builtin .append, args, argTypes } => appendX P argTypes (args.map tm) h
  | .call { callee := .builtin .copy, args, argTypes } => copyX P argTypes (args.map tm) h
  | .call { callee := .builtin .clear, args, argTypes } => clearX P argTypes (args.map tm) h
  | _ => none

def NextIs : Next → Value → Prop
  | .value u, v => u = v
  | .skip, v => v = undefV
  | _, _ => False

def Res (P : Program) (ρ : Nat → Loc) (h : H) (w : World) (r : Result Next) (v : Value) (h' : H) : Prop :=
  ∃ nx w' ρ', r = .ok nx w' ∧ NextIs nx (ren ρ' v) ∧ Sim ρ' h' w' ∧ Step ρ h w ρ' h' w'

theorem Res.ofDone {P : Program} {ρ : Nat → Loc} {h h' : H} {w : World} {r : Result Value} {v : Value} (d : Done P ρ h w r v h') :
    Res P ρ h w (r.andThen fun a w' => .ok (.value a) w') v h' := by
  obtain ⟨w', ρ', hr, hs, hst⟩ := d.out
  exact ⟨.value (ren ρ' v), w', ρ', by rw [hr]; rfl, rfl, hs, hst⟩

theorem Res.ofUnit {P : Program} {ρ : Nat → Loc} {h h' : H} {w : World} {r : Result Unit} (d : ∃ w', r = .ok () w' ∧ Sim ρ h' w' ∧ Step ρ h w ρ h' w') :
    Res P ρ h w (r.andThen fun _ w' => .ok .skip w') undefV h' := by
  obtain ⟨w', hr, hs, hst⟩ := d
  exact ⟨.skip, w', ρ, by rw [hr]; rfl, by simp [NextIs, undefV, ren, renArr, renL], hs, hst⟩

theorem Res.ofSame {P : Program} {ρ : Nat → Loc} {h : H} {w : World} {r : Result Value} {v : Value} (s : Sim ρ h w) (d : r = .ok (ren ρ v) w) :
    Res P ρ h w (r.andThen fun a w' => .ok (.value a) w') v h :=
  ⟨.value (ren ρ v), w, ρ, by rw [d]; rfl, rfl, s, Step.refl _ _ _⟩

theorem makeMap_done {P : Program} {ρ : Nat → Loc} {h : H} {w : World} (s : Sim ρ h w) :
    Done P ρ h w (.ok (.map (some w.heap.size)) { w with heap := w.heap.push (.map #[] 0) }) (.map (some h.size)) (h.new (.map [] 0)) := by
  obtain ⟨a, b⟩ := new_sim (k := .map [] 0) (o := .map #[] 0) (ex := 0) s trivial ⟨by simp, by simp⟩
  exact ⟨_, _, by simp [ren, ext_self], a, b⟩

theorem heavy_run {P : Program} {ρ : Nat → Loc} {tm cev : Operand → Value} {o : Oper} {h h' : H} {w : World} {v : Value} (s : Sim ρ h w) (hx : heavyX P tm o h = some (v, h'))
    (hev : ∀ x, x ∈ o.op.operands → cev x = ren ρ (tm x)) : Res P ρ h w ((execOp cev o).run P w) v h' := by
  unfold heavyX at hx
  split at hx
  case h_1 t a x ho =>
    rw [ho] at hev
    split at hx
    · rename_i h2 hs
      simp only [Option.some.injEq, Prod.mk.injEq] at hx
      obtain ⟨rfl, rfl⟩ := hx
      simp only [execOp, ho, Sem.run_bind, hev a (by simp [Op.operands]), hev x (by simp [Op.operands])]
      exact Res.ofUnit (store_run s hs)
    · cases hx
  case h_2 t ho =>
    simp only [Option.some.injEq, Prod.mk.injEq] at hx
    obtain ⟨rfl, rfl⟩ := hx
    simp only [execOp, ho, Sem.run_bind, Instr.makeMap, Option.map_none, run_newObj, Result.andThen_ok, Sem.run_pure]
    exact Res.ofDone (makeMap_done s)
  case h_3 t r ho =>
    rw [ho] at hev
    split at hx
    · rename_i a b k n hu hr
      simp only [Option.some.injEq, Prod.mk.injEq] at hx
      obtain ⟨rfl, rfl⟩ := hx
      simp only [execOp, ho, Sem.run_bind, Instr.makeMap, Option.map_some, hev r (by simp [Op.operands]), hr, ren, run_underlying hu, Result.andThen_ok, asInt, asIntOf, run_newObj, Sem.run_pure]
      exact Res.ofDone (makeMap_done s)
    · cases hx
  case h_4 t m k b ho =>
    rw [ho] at hev
    split at hx
    · rename_i u hl
      simp only [Option.some.injEq, Prod.mk.injEq] at hx
      obtain ⟨rfl, rfl⟩ := hx
      simp only [execOp, ho, Sem.run_bind, hev m (by simp [Op.operands]), hev k (by simp [Op.operands])]
      exact Res.ofSame s (lookup_run s hl)
    · cases hx
  case h_5 t m k x ho =>
    rw [ho] at hev
    split at hx
    · rename_i h2 hs
      simp only [Option.some.injEq, Prod.mk.injEq] at hx
      obtain ⟨rfl, rfl⟩ := hx
      simp only [execOp, ho, Sem.run_bind, hev m (by simp [Op.operands]), hev k (by simp [Op.operands]), hev x (by simp [Op.operands])]
      exact Res.ofUnit (update_run s hs)
    · cases hx
  case h_6 t m k x ho =>
    rw [ho] at hev
    split at hx
    · rename_i h2 hs
      simp only [Option.some.injEq, Prod.mk.injEq] at hx
      obtain ⟨rfl, rfl⟩ := hx
      simp only [execOp, ho, Sem.run_bind, hev m (by simp [Op.operands]), hev k (by simp [Op.operands]), hev x (by simp [Op.operands])]
      exact Res.ofUnit (update_run s hs)
    · cases hx
  case h_7 t x ho =>
    rw [ho] at hev
    split at hx
    · rename_i k hs
      simp only [Option.some.injEq, Prod.mk.injEq] at hx
      obtain ⟨rfl, rfl⟩ := hx
      simp only [execOp, ho, Sem.run_bind, hev x (by simp [Op.operands])]
      exact Res.ofDone (range_run s hs)
    · cases hx
  case h_8 it b ho =>
    rw [ho] at hev
    simp only [execOp, ho, Sem.run_bind, hev it (by simp [Op.operands])]
    exact Res.ofDone (next_run s hx)
  case h_9 it ho =>
    rw [ho] at hev
    split at hx
    · rename_i u hs
      simp only [Option.some.injEq, Prod.mk.injEq] at hx
      obtain ⟨rfl, rfl⟩ := hx
      simp only [execOp, ho, Sem.run_bind, hev it (by simp [Op.operands])]
      exact Res.ofSame s (entry_run s hs)
    · cases hx
  case h_10 a b x ho =>
    rw [ho] at hev
    simp only [execOp, ho, Sem.run_bind, hev x (by simp [Op.operands])]
    exact Res.ofDone (convert_run s hx)
  case h_11 args ts ho =>
    rw [ho] at hev
    have ha := arr_ops (ρ := ρ) (tm := tm) (cev := cev) (xs := args) (fun x hx => hev x (by simp [Op.operands, Call.operands, hx]))
    simp only [execOp, ho, resolve, Sem.run_bind, Sem.run_pure, Result.andThen_ok, invoke, builtin, ha]
    exact Res.ofDone (append_run s hx)
  case h_12 args ts ho =>
    rw [ho] at hev
    have ha := arr_ops (ρ := ρ) (tm := tm) (cev := cev) (xs := args) (fun x hx => hev x (by simp [Op.operands, Call.operands, hx]))
    simp only [execOp, ho, resolve, Sem.run_bind, Sem.run_pure, Result.andThen_ok, invoke, builtin, ha]
    exact Res.ofDone (copy_run s hx)
  case h_13 args ts ho =>
    rw [ho] at hev
    have ha := arr_ops (ρ := ρ) (tm := tm) (cev := cev) (xs := args) (fun x hx => hev x (by simp [Op.operands, Call.operands, hx]))
    simp only [execOp, ho, resolve, Sem.run_bind, Sem.run_pure, Result.andThen_ok, invoke, builtin, ha]
    exact Res.ofDone (clear_run s hx)
  case h_14 => cases hx

/-! ### calls -/
def calleeX (v : Value) (args : Array Value) : Option (FuncId × Array Value) :=
  match v with
  | .func (.func f) first captured => some (f, first ++ args ++ captured)
  | _ => none

/-- the method behind an interface value: the plain rows alone -/
def methodX (P : Program) (v : Value) (name : String) : Option (FuncId × Value) :=
  match v with
  | .iface t x =>
    match P.info? t with
    | some inf =>
      match inf.methods.find? (·.name == name) with
      | some m => cond m.path.isEmpty
          (match m.func, P.underlying t with
           | some (f, true), some (.pointer _) => some (f, x)
           | some (f, false), some (.struct _) => some (f, x)
           | some (f, false), some (.int _) => some (f, x)
           | some (f, false), some (.slice _) => some (f, x)
           | _, _ => none) none
      | none => none
    | none => none
  | _ => none

def callX (P : Program) (tm : Operand → Value) (o : Oper) : Option (FuncId × Array Value) :=
  match o.op with
  | .call { callee := .value f, args, .. } => calleeX (tm f) (args.map tm)
  | .call { callee := .invoke r name, args, .. } => match methodX P (tm r) name with
    | some (f, recv) => some (f, #[recv] ++ args.map tm)
    | none => none
  | _ => none

theorem callFunc_run {P : Program} (hnn : NoNum P) {f : FuncId} (h : goFn P f = true) (args : Array Value) (w : World) : (callFunc f args).run P w = .ok (.enter f args) w := by
  unfold goFn at h
  split at h
  · rename_i fn hf
    have h1 : fn.body.isSome = true := h
    have h2 := hnn f fn hf
    have h3 : fn.body.isNone = false := by cases hb : fn.body <;> simp_all
    simp only [callFunc, Sem.run_bind, run_program, Result.andThen_ok, hf, h2, h3, Bool.false_eq_true, if_false, Sem.run_pure]
  · cases h

theorem method_run {P : Program} (hnn : NoNum P) {ρ : Nat → Loc} {v recv : Value} {name : String} {f : FuncId} (h : methodX P v name = some (f, recv)) (args : Array Value) (hg : goFn P f = true) (w : World) :
    (callMethod (ren ρ v) name args).run P w = .ok (.enter f (#[ren ρ recv] ++ args)) w := by
  unfold methodX at h
  split at h
  · rename_i t x
    split at h
    · rename_i inf hi
      split at h
      · rename_i m hm
        obtain ⟨h1, h2⟩ := cond_some h
        have hp : m.path.toList = [] := by simpa using h1
        have hmeth : ∀ b : Bool, (receiverAt t (.val (ren ρ x)) b (if m.path.isEmpty then some ((name.splitOn ".").getLastD name) else none)).run P w = .ok (ren ρ x) w → m.func = some (f, b) →
            (callMethod (.iface t (ren ρ x)) name args).run P w = .ok (.enter f (#[ren ρ x] ++ args)) w := by
          intro b hr hf
          simp only [callMethod, Sem.run_bind, run_program, Result.andThen_ok]
          have : ∃ n, P.types.size + Made.depth = n + 1 := ⟨P.types.size + Made.depth - 1, by have : 0 < Made.depth := (by decide); omega⟩
          obtain ⟨n, hn⟩ := this
          rw [hn]
          simp only [method, Sem.run_bind, typeInfo, run_program, Result.andThen_ok, hi, Sem.run_pure, hm, hp, follow, hf, hr]
          exact callFunc_run hnn hg _ w
        simp only [ren]
        split at h2
        · rename_i f' e hf hu
          simp only [Option.some.injEq, Prod.mk.injEq] at h2
          obtain ⟨rfl, rfl⟩ := h2
          exact hmeth true (by simp only [receiverAt, Sem.run_bind, run_underlying hu, Result.andThen_ok, Place.get, Sem.run_pure]) hf
        · rename_i f' e hf hu
          simp only [Option.some.injEq, Prod.mk.injEq] at h2
          obtain ⟨rfl, rfl⟩ := h2
          exact hmeth false (by simp only [receiverAt, Sem.run_bind, run_underlying hu, Result.andThen_ok, Place.get, Sem.run_pure]) hf
        · rename_i f' e hf hu
          simp only [Option.some.injEq, Prod.mk.injEq] at h2
          obtain ⟨rfl, rfl⟩ := h2
          exact hmeth false (by simp only [receiverAt, Sem.run_bind, run_underlying hu, Result.andThen_ok, Place.get, Sem.run_pure]) hf
        · rename_i f' e hf hu
          simp only [Option.some.injEq, Prod.mk.injEq] at h2
          obtain ⟨rfl, rfl⟩ := h2
          exact hmeth false (by simp only [receiverAt, Sem.run_bind, run_underlying hu, Result.andThen_ok, Place.get, Sem.run_pure]) hf
        · cases h2
      · cases h
    · cases h
  · cases h

theorem call_run {P : Program} (hnn : NoNum P) {ρ : Nat → Loc} {tm cev : Operand → Value} {o : Oper} {f : FuncId} {args : Array Value} (hx : callX P tm o = some (f, args)) (hg : goFn P f = true)
    (hev : ∀ x, x ∈ o.op.operands → cev x = ren ρ (tm x)) (w : World) : (execOp cev o).run P w = .ok (.enter f (args.map (ren ρ))) w := by
  unfold callX at hx
  split at hx
  · rename_i f0 as ts ho
    rw [ho] at hev
    have ha := arr_ops (ρ := ρ) (tm := tm) (cev := cev) (xs := as) (fun x hx => hev x (by simp [Op.operands, Call.operands, hx]))
    unfold calleeX at hx
    split at hx
    · rename_i f' first captured hf
      simp only [Option.some.injEq, Prod.mk.injEq] at hx
      obtain ⟨rfl, rfl⟩ := hx
      simp only [execOp, ho, resolve, Sem.run_bind, ha, hev f0 (by simp [Op.operands, Call.operands]), hf, ren, Deferred.ofValue, Sem.run_pure, Result.andThen_ok, invoke]
      rw [callFunc_run hnn hg]
      simp [renArr_eq]
    · cases hx
  · rename_i r name as ts ho
    rw [ho] at hev
    have ha := arr_ops (ρ := ρ) (tm := tm) (cev := cev) (xs := as) (fun x hx => hev x (by simp [Op.operands, Call.operands, hx]))
    split at hx
    · rename_i f' recv hm
      simp only [Option.some.injEq, Prod.mk.injEq] at hx
      obtain ⟨rfl, rfl⟩ := hx
      simp only [execOp, ho, resolve, Sem.run_bind, ha, hev r (by simp [Op.operands, Call.operands]), Sem.run_pure, Result.andThen_ok, invoke]
      have h0 : (#[ren ρ (tm r)] ++ (as.map tm).map (ren ρ))[0]? = some (ren ρ (tm r)) := by
        rw [Array.getElem?_append_left (by simp)]; rfl
      simp only [h0]
      have h1 : (#[ren ρ (tm r)] ++ (as.map tm).map (ren ρ)).extract 1 (#[ren ρ (tm r)] ++ (as.map tm).map (ren ρ)).size = (as.map tm).map (ren ρ) := by
        apply Array.ext'; simp
        exact List.take_of_length_le (by simp)
      rw [h1, method_run hnn hm _ hg w]
      simp
    · cases hx
  · cases hx

end
end Go.AX
