import Derived.Test.YtnamakmnlagpgaaGreatDoorAx1
import Derived.Laws.Entries
set_option linter.unusedVariables false
set_option linter.unusedSimpArgs false
namespace Go.AX
noncomputable section
open Go

/-! ### operations that ask nothing of the heap -/
def isAggB (P : Program) (t : TypeId) : Option Bool :=
  match P.underlying t with
  | some (.struct _) => some true
  | some (.array _ _) => some true
  | some _ => some false
  | none => none

def sizeB (P : Program) (t : TypeId) : Option Nat :=
  match P.info? t with
  | some i => some i.size
  | none => none

def zeroB (P : Program) (t : TypeId) : Option Value :=
  match P.info? t with
  | some i => match i.zero with
    | some z => cond (free z) (some z) none
    | none => none
  | none => none

theorem isAgg_run {P : Program} {t : TypeId} {b : Bool} (h : isAggB P t = some b) (w : World) : (isAgg t).run P w = .ok b w := by
  unfold isAggB at h
  cases hu : P.underlying t with
  | none => simp [hu] at h
  | some d =>
    simp only [isAgg, Sem.run_bind, run_underlying hu, Result.andThen_ok]
    rw [hu] at h
    cases d <;> simp at h <;> subst h <;> simp

theorem size_run {P : Program} {t : TypeId} {n : Nat} (h : sizeB P t = some n) (w : World) : (sizeOf t).run P w = .ok n w := by
  unfold sizeB at h
  cases hu : P.info? t with
  | none => simp [hu] at h
  | some i => simp [hu] at h; subst h; simp [sizeOf, typeInfo, hu]

theorem zero_run {P : Program} {t : TypeId} {z : Value} (h : zeroB P t = some z) (w : World) : (zeroValue t).run P w = .ok z w ∧ free z = true := by
  unfold zeroB at h
  cases hu : P.info? t with
  | none => simp [hu] at h
  | some i =>
    simp only [hu] at h
    cases hz : i.zero with
    | none => simp [hz] at h
    | some z' =>
      simp only [hz] at h
      obtain ⟨h1, h2⟩ := cond_some h
      simp only [Option.some.injEq] at h2; subst h2
      exact ⟨by simp [zeroValue, typeInfo, hu, hz], h1⟩

def partX (P : Program) (t : TypeId) (cs : Array Value) (off : Nat) : Option Value :=
  match isAggB P t, sizeB P t with
  | some true, some n => some (.agg (cs.extract off (off + n)))
  | some false, some _ => cs[off]?
  | _, _ => none

theorem part_run {P : Program} {ρ : Nat → Loc} {t : TypeId} {cs : Array Value} {off : Nat} {v : Value} (h : partX P t cs off = some v) (w : World) :
    (part t (renArr ρ cs) off).run P w = .ok (ren ρ v) w := by
  unfold partX at h
  split at h
  · rename_i n h1 h2
    simp only [Option.some.injEq] at h; subst h
    simp only [part, Sem.run_bind, isAgg_run h1, Result.andThen_ok, if_true, size_run h2, Sem.run_pure]
    simp only [ren, renArr_eq, Array.map_extract]
  · rename_i n h1 h2
    simp only [part, Sem.run_bind, isAgg_run h1, Result.andThen_ok, Bool.false_eq_true, if_false]
    rw [renArr_eq, Array.getElem?_map, h]; rfl
  · cases h

def buildX (P : Program) (t : TypeId) (parts : List (Nat × Value)) : Option Value :=
  match zeroB P t, P.underlying t with
  | some z, some (.struct fs) =>
    cond (fs.toList.all fun f => (P.info? f.type).isSome)
      (match Instr.fill (fun i => (fs[i]?).bind fun f => (P.info? f.type).map fun i => (f.offset, i.size)) z.cells parts with
       | some cs => some (.agg cs)
       | none => none) none
  | some z, some (.array _ e) =>
    match sizeB P e with
    | some size => match Instr.fill (fun i => some (i * size, size)) z.cells parts with
      | some cs => some (.agg cs)
      | none => none
    | none => none
  | _, _ => none

theorem foldl_set_map (f : Value → Value) (off : Nat) : ∀ (l : List (Value × Nat)) (cells : Array Value),
    (l.map fun p => (f p.1, p.2)).foldl (fun cs (p : Value × Nat) => cs.setIfInBounds (off + p.2) p.1) (cells.map f) =
      (l.foldl (fun cs (p : Value × Nat) => cs.setIfInBounds (off + p.2) p.1) cells).map f
  | [], cells => rfl
  | p :: l, cells => by
    simp only [List.map_cons, List.foldl_cons]
    rw [← Array.map_setIfInBounds]
    exact foldl_set_map f off l _

theorem zipIdx_map_fst {α β : Type} (f : α → β) (l : List α) (k : Nat) : (l.map f).zipIdx k = (l.zipIdx k).map fun p => (f p.1, p.2) := by
  induction l generalizing k with
  | nil => rfl
  | cons a l ih => simp [List.zipIdx_cons, ih]

theorem fill_ren (ρ : Nat → Loc) (place : Nat → Option (Nat × Nat)) : ∀ (parts : List (Nat × Value)) (cells cells' : Array Value),
    Instr.fill place cells parts = some cells' →
    Instr.fill place (cells.map (ren ρ)) (parts.map fun p => (p.1, ren ρ p.2)) = some (cells'.map (ren ρ))
  | [], cells, cells', h => by simp [Instr.fill] at h ⊢; subst h; rfl
  | (i, v) :: rest, cells, cells', h => by
    simp only [Instr.fill, List.map_cons] at h ⊢
    have hc : (ren ρ v).cells = v.cells.map (ren ρ) := by
      apply Array.ext'; simp [ren_cells]
    cases hp : place i with
    | none => simp [hp] at h
    | some q =>
      obtain ⟨off, size⟩ := q
      simp only [hp] at h ⊢
      rw [hc]
      simp only [Array.size_map]
      split at h
      · cases h
      · rename_i hcond
        rw [if_neg hcond]
        have := fill_ren ρ place rest _ _ h
        rw [← this]
        congr 1
        rw [← Array.foldl_toList, ← Array.foldl_toList]
        simp only [Array.toList_zipIdx, Array.toList_map, zipIdx_map_fst]
        exact (foldl_set_map (ren ρ) off _ cells)

theorem mapM_run {P : Program} {α β : Type} (f : α → Sem β) (g : α → β) (w : World) : ∀ (l : List α), (∀ a, a ∈ l → (f a).run P w = .ok (g a) w) →
    (l.mapM f).run P w = .ok (l.map g) w
  | [], _ => by simp
  | a :: l, h => by
    simp only [List.mapM_cons, Sem.run_bind, h a (List.mem_cons_self ..), Result.andThen_ok, mapM_run f g w l (fun b hb => h b (List.mem_cons_of_mem _ hb)), Sem.run_pure, List.map_cons]

theorem cells_free {ρ : Nat → Loc} {z : Value} (h : free z = true) : z.cells.map (ren ρ) = z.cells := by
  have := ren_cells ρ z
  rw [ren_free ρ z h] at this
  apply Array.ext'
  simp [← this]

theorem build_run {P : Program} {ρ : Nat → Loc} {t : TypeId} {parts : List (Nat × Value)} {v : Value} (h : buildX P t parts = some v) (w : World) :
    (Instr.build t (parts.map fun p => (p.1, ren ρ p.2)).toArray).run P w = .ok (ren ρ v) w := by
  unfold buildX at h
  split at h
  · rename_i z fs hz hu
    obtain ⟨h1, h2⟩ := cond_some h
    split at h2
    · rename_i cs hf
      simp only [Option.some.injEq] at h2; subst h2
      obtain ⟨hzr, hzf⟩ := zero_run hz w
      have hall : ∀ f ∈ fs.toList, (P.info? f.type).isSome = true := List.all_eq_true.1 h1
      have hm : (fs.mapM (fun f => do pure (f.offset, ← sizeOf f.type) : Field → Sem (Nat × Nat))).run P w = .ok (fs.map fun f => (f.offset, ((P.info? f.type).map (·.size)).getD 0)) w := by
        rw [Array.mapM_eq_mapM_toList]
        simp only [Sem.run_map]
        rw [mapM_run (fun f => do pure (f.offset, ← sizeOf f.type)) (fun f => (f.offset, ((P.info? f.type).map (·.size)).getD 0)) w fs.toList (fun f hf' => by
          have := hall f hf'
          obtain ⟨i, hi⟩ := Option.isSome_iff_exists.1 this
          simp [sizeOf, typeInfo, hi])]
        simp only [Result.andThen_ok]
        congr 1
        apply Array.ext'; simp
      have hplace : (fun (i : Nat) => (fs.map fun f => (f.offset, ((P.info? f.type).map (·.size)).getD 0))[i]?) = fun (i : Nat) => (fs[i]?).bind fun (f : Field) => (P.info? f.type).map fun (i : TypeInfo) => (f.offset, i.size) := by
        funext i
        rw [Array.getElem?_map]
        cases hi : fs[i]? with
        | none => rfl
        | some f =>
          have hmem : f ∈ fs.toList := by
            have := Array.mem_of_getElem? hi
            exact Array.mem_toList_iff.2 this
          obtain ⟨inf, hinf⟩ := Option.isSome_iff_exists.1 (hall f hmem)
          simp [hinf]
      have hfr := fill_ren ρ _ parts _ _ hf
      rw [cells_free hzf] at hfr
      simp only [Instr.build, Sem.run_bind, hzr, Result.andThen_ok, run_underlying hu, hm]
      rw [hplace, hfr]
      simp only [Sem.run_pure, ren, renArr_eq]
    · cases h2
  · rename_i z n e hz hu
    split at h
    · rename_i size hs
      split at h
      · rename_i cs hf
        simp only [Option.some.injEq] at h; subst h
        obtain ⟨hzr, hzf⟩ := zero_run hz w
        have hfr := fill_ren ρ _ parts _ _ hf
        rw [cells_free hzf] at hfr
        simp only [Instr.build, Sem.run_bind, hzr, Result.andThen_ok, run_underlying hu, size_run hs]
        rw [hfr]
        simp only [Sem.run_pure, ren, renArr_eq]
      · cases h
    · cases h
  · cases h


def fieldX (P : Program) (t : TypeId) (x : Value) (f : Nat) : Option Value :=
  match P.underlying t, x with
  | some (.struct fs), .agg cs => match fs[f]? with
    | some fd => partX P fd.type cs fd.offset
    | none => none
  | _, _ => none

theorem field_run {P : Program} {ρ : Nat → Loc} {t : TypeId} {x v : Value} {f : Nat} (h : fieldX P t x f = some v) (w : World) :
    (Instr.field t (ren ρ x) f).run P w = .ok (ren ρ v) w := by
  unfold fieldX at h
  split at h
  · rename_i fs cs hu
    split at h
    · rename_i fd hf
      simp only [Instr.field, Sem.run_bind, run_underlying hu, Result.andThen_ok, hf, ren, asAgg, Sem.run_pure]
      exact part_run h w
    · cases h
  · cases h

def fieldAddrX (P : Program) (s : TypeId) (a : Value) (f : Nat) : Option Value :=
  match P.underlying s, a with
  | some (.struct fs), .pointer (some ⟨b, o, none⟩) =>
    match fs[f]? with
    | some fd => match sizeB P fd.type with
      | some (_ + 1) => some (.pointer (some ⟨b, o + fd.offset, none⟩))
      | _ => none
    | none => none
  | _, _ => none

theorem add_eq (B o n : Nat) : (⟨B, o, none⟩ : Addr).add n = ⟨B, o + n, none⟩ := by
  unfold Addr.add
  split
  · rename_i e; subst e; rfl
  · rfl

theorem fieldAddr_run {P : Program} {ρ : Nat → Loc} {s : TypeId} {a v : Value} {f : Nat} (h : fieldAddrX P s a f = some v) (w : World) :
    (Instr.fieldAt s (ren ρ a) f).run P w = .ok (ren ρ v) w := by
  unfold fieldAddrX at h
  split at h
  · rename_i fs b o hu
    split at h
    · rename_i fd hf
      split at h
      · rename_i n hs
        simp only [Option.some.injEq] at h; subst h
        simp only [Instr.fieldAt, Sem.run_bind, run_underlying hu, Result.andThen_ok, hf, ren, renA, Instr.sureAddr, Sem.run_pure, fieldPlace, size_run hs]
        rw [if_neg (Nat.succ_ne_zero n)]
        simp only [Sem.run_pure, Result.andThen_ok, add_eq, Nat.add_assoc]
      · cases h
    · cases h
  · cases h

def indexAddrX (P : Program) (t : TypeId) (x ix : Value) : Option Value :=
  match ix, P.underlying t, x with
  | .int _ i, some (.array len e), .pointer (some ⟨b, o, none⟩) =>
    match sizeB P e with
    | some sz => if 0 ≤ i ∧ i < len then some (.pointer (some ⟨b, o + i.toNat * sz, none⟩)) else none
    | none => none
  | .int _ i, some (.slice e), .slice (some ⟨b, o, none⟩) len _ =>
    match sizeB P e with
    | some sz => if 0 ≤ i ∧ i < len then some (.pointer (some ⟨b, o + i.toNat * sz, none⟩)) else none
    | none => none
  | _, _, _ => none

theorem indexAddr_run {P : Program} {ρ : Nat → Loc} {t : TypeId} {x ix v : Value} (h : indexAddrX P t x ix = some v) (w : World) :
    (Instr.indexAt t (ren ρ x) (ren ρ ix)).run P w = .ok (ren ρ v) w := by
  unfold indexAddrX at h
  split at h
  · rename_i k i len e b o hu
    split at h
    · rename_i sz hs
      split at h
      · rename_i hi
        simp only [Option.some.injEq] at h; subst h
        simp only [Instr.indexAt, ren, renA, asIntOf, Sem.run_bind, Sem.run_pure, Result.andThen_ok, run_underlying hu, Instr.sureAddr]
        rw [if_pos hi]
        simp only [Sem.run_bind, size_run hs, Result.andThen_ok, Sem.run_pure, add_eq, Nat.add_assoc]
      · cases h
    · cases h
  · rename_i k i e b o len c hu
    split at h
    · rename_i sz hs
      split at h
      · rename_i hi
        simp only [Option.some.injEq] at h; subst h
        simp only [Instr.indexAt, ren, renA, asIntOf, Sem.run_bind, Sem.run_pure, Result.andThen_ok, run_underlying hu]
        rw [if_pos hi]
        simp only [Sem.run_bind, size_run hs, Result.andThen_ok, Sem.run_pure, add_eq, Nat.add_assoc]
      · cases h
    · cases h
  · cases h

def indexX (P : Program) (t : TypeId) (x ix : Value) : Option Value :=
  match ix, P.underlying t, x with
  | .int _ i, some (.array len e), .agg cs =>
    match sizeB P e with
    | some sz => if 0 ≤ i ∧ i < len then partX P e cs (i.toNat * sz) else none
    | none => none
  | _, _, _ => none

theorem index_run {P : Program} {ρ : Nat → Loc} {t : TypeId} {x ix v : Value} (h : indexX P t x ix = some v) (w : World) :
    (Instr.index t (ren ρ x) (ren ρ ix)).run P w = .ok (ren ρ v) w := by
  unfold indexX at h
  split at h
  · rename_i k i len e cs hu
    split at h
    · rename_i sz hs
      split at h
      · rename_i hi
        simp only [Instr.index, ren, asIntOf, Sem.run_bind, Sem.run_pure, Result.andThen_ok, run_underlying hu]
        rw [if_pos hi]
        simp only [Sem.run_bind, size_run hs, Result.andThen_ok]
        exact part_run h w
      · cases h
    · cases h
  · cases h

def bnd (v : Option Value) (d : Nat) : Option Nat :=
  match v with
  | none => some d
  | some (.int _ (.ofNat n)) => some n
  | _ => none

theorem sliceBound_run {P : Program} {v : Value} {n y : Nat} {c : BoundsCode} {d : Nat} (h : bnd (some v) d = some n) (hy : n ≤ y) (w : World) :
    (Instr.sliceBound v y c).run P w = .ok n w := by
  unfold bnd at h
  split at h
  · rename_i e; cases e
  · rename_i k m e
    simp only [Option.some.injEq] at h e
    subst h; subst e
    simp only [Instr.sliceBound, asIntOf, Sem.run_bind, Sem.run_pure, Result.andThen_ok]
    rw [if_pos ⟨Int.natCast_nonneg _, by simpa using hy⟩]
    simp
  · cases h

theorem bnd_free {v : Value} {d n : Nat} (h : bnd (some v) d = some n) (ρ : Nat → Loc) : ren ρ v = v := by
  unfold bnd at h
  split at h
  · rename_i e; cases e
  · rename_i k m e
    simp only [Option.some.injEq] at e; subst e; simp only [ren]
  · cases h

theorem sliceBounds_run {P : Program} {ρ : Nat → Loc} {isS : Bool} {len cap l h m : Nat} {lo hi mx : Option Value} (hl : bnd lo 0 = some l) (hh : bnd hi len = some h)
    (hm : (mx = none ∧ m = cap) ∨ (∃ v, mx = some v ∧ bnd mx 0 = some m ∧ hi ≠ none)) (h1 : l ≤ h) (h2 : h ≤ m) (h3 : m ≤ cap) (w : World) :
    (Instr.sliceBounds isS len cap (lo.map (ren ρ)) (hi.map (ren ρ)) (mx.map (ren ρ))).run P w = .ok (l, h, m) w := by
  rcases hm with ⟨rfl, rfl⟩ | ⟨v, rfl, hmv, hne⟩
  · cases hi with
    | none =>
      simp only [bnd, Option.some.injEq] at hh; subst hh
      cases lo with
      | none =>
        simp only [bnd, Option.some.injEq] at hl; subst hl
        simp [Instr.sliceBounds]
      | some a =>
        simp only [Option.map_some, bnd_free hl ρ]
        simp only [Instr.sliceBounds, Sem.run_bind, Option.map_none, Sem.run_pure, Result.andThen_ok, Option.isSome_none, sliceBound_run hl h1]
    | some b =>
      simp only [Option.map_some, bnd_free hh ρ]
      cases lo with
      | none =>
        simp only [bnd, Option.some.injEq] at hl; subst hl
        simp only [Instr.sliceBounds, Sem.run_bind, Option.map_none, Sem.run_pure, Result.andThen_ok, sliceBound_run hh h2]
      | some a =>
        simp only [Option.map_some, bnd_free hl ρ]
        simp only [Instr.sliceBounds, Sem.run_bind, Option.map_none, Sem.run_pure, Result.andThen_ok, sliceBound_run hh h2, sliceBound_run hl h1]
  · cases hi with
    | none => exact absurd rfl hne
    | some b =>
      simp only [Option.map_some, bnd_free hh ρ, bnd_free hmv ρ]
      cases lo with
      | none =>
        simp only [bnd, Option.some.injEq] at hl; subst hl
        simp only [Instr.sliceBounds, Sem.run_bind, Option.map_none, Sem.run_pure, Result.andThen_ok, sliceBound_run hmv h3, sliceBound_run hh h2]
      | some a =>
        simp only [Option.map_some, bnd_free hl ρ]
        simp only [Instr.sliceBounds, Sem.run_bind, Sem.run_pure, Result.andThen_ok, sliceBound_run hmv h3, sliceBound_run hh h2, sliceBound_run hl h1]

def mxOk (hi mx : Option Value) (cap : Nat) : Option Nat :=
  match mx, hi with
  | none, _ => some cap
  | some v, some _ => bnd (some v) 0
  | _, _ => none

def sliceX (P : Program) (t : TypeId) (x : Value) (lo hi mx : Option Value) : Option Value :=
  match P.underlying t, x with
  | some (.slice e), .slice (some ⟨b, o, none⟩) len cap =>
    match sizeB P e, bnd lo 0, bnd hi len with
    | some sz, some l, some h =>
      cond (Nat.beq (cap % 2) 1)
        (match mx with
         | none => cond (Nat.ble l h) (cond (Nat.ble h (cap / 2))
            (cond (Nat.beq l 0) (some (.slice (some ⟨b, o, none⟩) h cap))
              (cond (Nat.blt l (cap / 2)) (some (.slice (some ⟨b, o + l * sz, none⟩) (h - l) (2 * (cap / 2 - l) + 1))) none)) none) none
         | some v => match mxOk hi (some v) 0 with
           | some m => cond (Nat.ble l h) (cond (Nat.ble h m) (cond (Nat.ble m (cap / 2))
              (some (.slice (some (if m = l then ⟨b, o, none⟩ else ⟨b, o + l * sz, none⟩)) (h - l) (2 * (m - l)))) none) none) none
           | none => none)
        (match mxOk hi mx (cap / 2) with
         | some m => cond (Nat.ble l h) (cond (Nat.ble h m) (cond (Nat.ble m (cap / 2))
            (some (.slice (some (if m = l then ⟨b, o, none⟩ else ⟨b, o + l * sz, none⟩)) (h - l) (2 * (m - l)))) none) none) none
         | none => none)
    | _, _, _ => none
  | some (.array n e), .pointer (some ⟨b, o, none⟩) =>
    match sizeB P e, bnd lo 0, bnd hi n, mx with
    | some sz, some l, some h, none => cond (Nat.ble l h) (cond (Nat.ble h n)
        (some (.slice (some (if n = l then ⟨b, o, none⟩ else ⟨b, o + l * sz, none⟩)) (h - l) (2 * (n - l)))) none) none
    | _, _, _, _ => none
  | _, _ => none

theorem renC_exact (ρ : Nat → Loc) (b m : Nat) : renC ρ b (2 * m) = m := by
  unfold renC
  rw [nbeq (by omega)]
  simp only [cond_false]; omega
theorem renC_inexact (ρ : Nat → Loc) (b m : Nat) : renC ρ b (2 * m + 1) = m + (ρ b).ex := by
  unfold renC
  have : Nat.beq ((2 * m + 1) % 2) 1 = true := by rw [show (2 * m + 1) % 2 = 1 by omega]; rfl
  rw [this]
  simp only [cond_true]; omega
theorem cap_inexact {c : Nat} (h : Nat.beq (c % 2) 1 = true) : c = 2 * (c / 2) + 1 := by have := nbeq_true h; omega
theorem cap_exact {c : Nat} (h : Nat.beq (c % 2) 1 = false) : c = 2 * (c / 2) := by
  have : ¬ c % 2 = 1 := fun e => by rw [e] at h; cases h
  omega

theorem mxOk_spec {hi mx : Option Value} {cap m : Nat} (h : mxOk hi mx cap = some m) : (mx = none ∧ m = cap) ∨ (∃ v, mx = some v ∧ bnd mx 0 = some m ∧ hi ≠ none) := by
  unfold mxOk at h
  split at h
  · simp only [Option.some.injEq] at h; exact .inl ⟨rfl, h.symm⟩
  · exact .inr ⟨_, rfl, h, by simp⟩
  · cases h

theorem slice_key {P : Program} {ρ : Nat → Loc} {t : TypeId} {lo hi mx : Option Value} {e sz b o len cap l hh m c' : Nat} (hu : P.underlying t = some (.slice e)) (hs : sizeB P e = some sz)
    (hl : bnd lo 0 = some l) (hhi : bnd hi len = some hh) (hc : renC ρ b cap = c') (hm : (mx = none ∧ m = c') ∨ (∃ v, mx = some v ∧ bnd mx 0 = some m ∧ hi ≠ none))
    (h1 : l ≤ hh) (h2 : hh ≤ m) (h3 : m ≤ c') (w : World) :
    (Instr.sliceAt t (ren ρ (.slice (some ⟨b, o, none⟩) len cap)) (lo.map (ren ρ)) (hi.map (ren ρ)) (mx.map (ren ρ))).run P w =
      .ok (.slice (some (if m = l then ⟨(ρ b).B, (ρ b).off + o, none⟩ else ⟨(ρ b).B, (ρ b).off + o + l * sz, none⟩)) (hh - l) (m - l)) w := by
  simp only [Instr.sliceAt, Sem.run_bind, run_underlying hu, Result.andThen_ok, ren, renA, Instr.slice]
  rw [hc]
  simp only [sliceBounds_run (ρ := ρ) hl hhi hm h1 h2 h3, Result.andThen_ok, size_run hs, Sem.run_pure, Option.map_some, add_eq]
  split <;> rfl

theorem ren_slice_if (ρ : Nat → Loc) (b o sz l n m : Nat) :
    ren ρ (.slice (some (if m = l then ⟨b, o, none⟩ else ⟨b, o + l * sz, none⟩)) n (2 * (m - l))) =
      .slice (some (if m = l then ⟨(ρ b).B, (ρ b).off + o, none⟩ else ⟨(ρ b).B, (ρ b).off + o + l * sz, none⟩)) n (m - l) := by
  split <;> simp only [ren, renA, renC_exact, Nat.add_assoc]

theorem slice_run {P : Program} {ρ : Nat → Loc} {t : TypeId} {x v : Value} {lo hi mx : Option Value} (h : sliceX P t x lo hi mx = some v) (w : World) :
    (Instr.sliceAt t (ren ρ x) (lo.map (ren ρ)) (hi.map (ren ρ)) (mx.map (ren ρ))).run P w = .ok (ren ρ v) w := by
  unfold sliceX at h
  split at h
  · rename_i e b o len cap hu
    split at h
    · rename_i sz l hh hs hl hhi
      cases hbig : Nat.beq (cap % 2) 1 with
      | true =>
        have hce := cap_inexact hbig
        have hcr : renC ρ b cap = cap / 2 + (ρ b).ex := by
          conv => lhs; rw [hce]
          exact renC_inexact ρ b _
        simp only [hbig, cond_true] at h
        split at h
        · obtain ⟨h1, h⟩ := cond_some h
          obtain ⟨h2, h⟩ := cond_some h
          have h1 := nble_true h1
          have h2 := nble_true h2
          rw [slice_key hu hs hl hhi hcr (.inl ⟨rfl, rfl⟩) h1 (by omega) (Nat.le_refl _)]
          cases hl0 : Nat.beq l 0 with
          | true =>
            have := nbeq_true hl0
            subst this
            simp only [hl0, cond_true, Option.some.injEq] at h; subst h
            simp only [ren, renA, Nat.zero_mul, Nat.add_zero, Nat.sub_zero, ite_self, hcr]
          | false =>
            simp only [hl0, cond_false] at h
            obtain ⟨h3, h⟩ := cond_some h
            have h3 := blt_true.1 h3
            simp only [Option.some.injEq] at h; subst h
            rw [if_neg (by omega)]
            simp only [ren, renA, renC_inexact, Nat.add_assoc]
            rw [show cap / 2 + (ρ b).ex - l = cap / 2 - l + (ρ b).ex from by omega]
        · rename_i v
          split at h
          · rename_i m hm
            obtain ⟨h1, h⟩ := cond_some h
            obtain ⟨h2, h⟩ := cond_some h
            obtain ⟨h3, h⟩ := cond_some h
            have h1 := nble_true h1
            have h2 := nble_true h2
            have h3 := nble_true h3
            simp only [Option.some.injEq] at h; subst h
            have hms : (some v = none ∧ m = cap / 2 + (ρ b).ex) ∨ (∃ v', some v = some v' ∧ bnd (some v) 0 = some m ∧ hi ≠ none) := by
              rcases mxOk_spec hm with ⟨a, _⟩ | a
              · cases a
              · exact .inr a
            rw [slice_key hu hs hl hhi hcr hms h1 h2 (by omega), ren_slice_if]
          · cases h
      | false =>
        have hce := cap_exact hbig
        have hcr : renC ρ b cap = cap / 2 := by
          conv => lhs; rw [hce]
          exact renC_exact ρ b _
        simp only [hbig, cond_false] at h
        split at h
        · rename_i m hm
          obtain ⟨h1, h⟩ := cond_some h
          obtain ⟨h2, h⟩ := cond_some h
          obtain ⟨h3, h⟩ := cond_some h
          have h1 := nble_true h1
          have h2 := nble_true h2
          have h3 := nble_true h3
          simp only [Option.some.injEq] at h; subst h
          rw [slice_key hu hs hl hhi hcr (mxOk_spec hm) h1 h2 h3, ren_slice_if]
        · cases h
    · cases h
  · rename_i n e b o hu
    split at h
    · rename_i sz l hh hs hl hhi
      obtain ⟨h1, h⟩ := cond_some h
      obtain ⟨h2, h⟩ := cond_some h
      have h1 := nble_true h1
      have h2 := nble_true h2
      simp only [Option.some.injEq] at h; subst h
      rw [ren_slice_if]
      simp only [Instr.sliceAt, Sem.run_bind, run_underlying hu, Result.andThen_ok, ren, renA, Instr.sureAddr, Sem.run_pure,
        sliceBounds_run (ρ := ρ) hl hhi (.inl ⟨rfl, rfl⟩) h1 h2 (Nat.le_refl _), size_run hs, add_eq]
    · cases h
  · cases h


/-! ### nil or not -/
def isConst : Operand → Bool
  | .const _ => true
  | _ => false

def eqX (P : Program) (t : TypeId) (x y : Operand) (a b : Value) : Option Bool :=
  match P.underlying t, a, b with
  | some (.slice _), .slice none _ _, .slice none _ _ => some true
  | some (.slice _), .slice none _ _, .slice (some _) _ _ => some false
  | some (.slice _), .slice (some _) _ _, .slice none _ _ => some false
  | some (.map _ _), .map none, .map none => some true
  | some (.map _ _), .map none, .map (some _) => some false
  | some (.map _ _), .map (some _), .map none => some false
  | some (.func _ _ _), .nilFunc, .nilFunc => some true
  | some (.func _ _ _), .nilFunc, .func _ _ _ => some false
  | some (.func _ _ _), .func _ _ _, .nilFunc => some false
  | some (.interface _), .nilIface, .nilIface => cond (isConst x) (some true) (cond (isConst y) (some true) none)
  | some (.interface _), .nilIface, .iface _ _ => some false
  | some (.interface _), .iface _ _, .nilIface => some false
  | some (.pointer _), .pointer none, .pointer none => some true
  | some (.pointer _), .pointer none, .pointer (some _) => some false
  | some (.pointer _), .pointer (some _), .pointer none => some false
  | _, _, _ => none

theorem guard_nil {P : Program} {op : BinOp} {t : TypeId} {x y : Operand} (h : isConst x = true ∨ isConst y = true) (w : World) :
    (eqGuard op t x y .nilIface .nilIface).run P w = .ok () w := by
  cases op <;> first
    | rfl
    | (cases x <;> cases y <;> first
        | (simp only [isConst, Bool.false_eq_true, or_self] at h; done)
        | (simp [isConst] at h; done)
        | simp [eqGuard])

theorem eqIn_run {P : Program} {ρ : Nat → Loc} {t : TypeId} {x y : Operand} {a b : Value} {r : Bool} (h : eqX P t x y a b = some r) (d : Nat) (w : World) :
    (Op.equalIn (d + 1) t (ren ρ a) (ren ρ b)).run P w = .ok r w := by
  unfold eqX at h
  split at h
  case h_10 hu =>
    have hr : r = true := by
      cases hx : isConst x <;> cases hy : isConst y <;> simp_all
    subst hr
    simp only [ren, Op.equalIn, Sem.run_bind, run_underlying hu, Result.andThen_ok]; rfl
  case h_16 => cases h
  all_goals
    rename_i hu
    simp only [Option.some.injEq] at h; subst h
    simp only [ren, Op.equalIn, Sem.run_bind, run_underlying hu, Result.andThen_ok]; rfl

theorem eq_guard {P : Program} {ρ : Nat → Loc} {op : BinOp} {t : TypeId} {x y : Operand} {a b : Value} {r : Bool} (h : eqX P t x y a b = some r) (w : World) :
    (eqGuard op t x y (ren ρ a) (ren ρ b)).run P w = .ok () w := by
  unfold eqX at h
  split at h
  case h_10 hu =>
    have hc : isConst x = true ∨ isConst y = true := by
      cases hx : isConst x with
      | true => exact .inl rfl
      | false => cases hy : isConst y with
        | true => exact .inr rfl
        | false => simp [hx, hy] at h
    simp only [ren]
    exact guard_nil hc w
  case h_16 => cases h
  all_goals
    simp only [ren]
    cases op <;> rfl

theorem eq_bin {P : Program} {ρ : Nat → Loc} {t : TypeId} {x y : Operand} {a b : Value} {r : Bool} (h : eqX P t x y a b = some r) :
    binOp .eql t (ren ρ a) (ren ρ b) = (do pure (.bool (← Op.equal t (ren ρ a) (ren ρ b)))) ∧
    binOp .neq t (ren ρ a) (ren ρ b) = (do pure (.bool (!(← Op.equal t (ren ρ a) (ren ρ b))))) := by
  unfold eqX at h
  split at h
  case h_16 => cases h
  all_goals
    simp only [ren]
    exact ⟨rfl, rfl⟩

theorem eq_run {P : Program} {ρ : Nat → Loc} {t : TypeId} {x y : Operand} {a b : Value} {r : Bool} (h : eqX P t x y a b = some r) (w : World) :
    ((do eqGuard .eql t x y (ren ρ a) (ren ρ b); binOp .eql t (ren ρ a) (ren ρ b) : Sem Value).run P w = .ok (.bool r) w) ∧
    ((do eqGuard .neq t x y (ren ρ a) (ren ρ b); binOp .neq t (ren ρ a) (ren ρ b) : Sem Value).run P w = .ok (.bool !r) w) := by
  have he : (Op.equal t (ren ρ a) (ren ρ b)).run P w = .ok r w := eqIn_run h 9999 w
  constructor
  · simp only [Sem.run_bind, eq_guard h w, Result.andThen_ok, (eq_bin (ρ := ρ) h).1, he, Sem.run_pure]
  · simp only [Sem.run_bind, eq_guard h w, Result.andThen_ok, (eq_bin (ρ := ρ) h).2, he, Sem.run_pure]

def lenX (P : Program) (t : TypeId) (x : Value) : Option Value :=
  match P.underlying t, x with
  | some (.slice _), .slice (some _) n _ => some (goInt n)
  | _, _ => none

theorem len_run {P : Program} {ρ : Nat → Loc} {t ty : TypeId} {ts : Array TypeId} {x v : Value} {xs : Array Value} (h : lenX P t x = some v) (ht : ts[0]? = some t) (hx : xs[0]? = some (ren ρ x)) (w : World) :
    (Builtin.len_ ts ty xs).run P w = .ok v w ∧ ren ρ v = v := by
  unfold lenX at h
  split at h
  · rename_i e a n c hu
    simp only [Option.some.injEq] at h; subst h
    simp only [ren] at hx
    refine ⟨?_, by simp [goInt, ren]⟩
    simp [Builtin.len_, ht, hx, run_underlying hu]
  · cases h

def nilCheckX (x : Value) : Option Value :=
  match x with
  | .pointer (some a) => some (.pointer (some a))
  | .func (.func f) a b => some (.func (.func f) a b)
  | .iface t v => some (.iface t v)
  | _ => none

/-! ### all of them -/
def freeX (P : Program) (tm : Operand → Value) (o : Oper) : Option Value :=
  cond (o.op.operands.all fun x => free (tm x))
    (match pv P (execOp tm o) with
     | some (.value v) => cond (free v) (some v) none
     | _ => none) none

def noSel : Op → Bool
  | .select _ _ => false
  | _ => true

theorem freeX_run {P : Program} {ρ : Nat → Loc} {tm cev : Operand → Value} {o : Oper} {v : Value} (hs : noSel o.op = true) (h : freeX P tm o = some v)
    (hev : ∀ x, x ∈ o.op.operands → cev x = ren ρ (tm x)) (w : World) :
    (execOp cev o).run P w = .ok (.value (ren ρ v)) w := by
  unfold freeX at h
  obtain ⟨h1, h2⟩ := cond_some h
  split at h2
  · rename_i u hp
    obtain ⟨h3, h4⟩ := cond_some h2
    simp only [Option.some.injEq] at h4; subst h4
    have he : execOp cev o = execOp tm o := execOp_congr o (fun cs b e => by rw [e] at hs; cases hs) fun x hx => by
      rw [hev x hx]
      exact ren_free ρ _ (Array.all_eq_true_iff_forall_mem.1 h1 x hx)
    rw [he, ren_free ρ _ h3]
    exact pv_run P _ _ hp w
  · cases h2

def orElse (a : Option Value) (b : Option Value) : Option Value :=
  match a with
  | some v => some v
  | none => b

def pureX (P : Program) (tm : Operand → Value) (o : Oper) : Option Value :=
  match o.op with
  | .move x => some (tm x)
  | .assign x => some (tm x)
  | .pick c a b => match tm c with
    | .bool t => some (cond t (tm a) (tm b))
    | _ => none
  | .build t ps => buildX P t (ps.toList.map fun p => (p.1, tm p.2))
  | .nilCheck x => nilCheckX (tm x)
  | .fieldAddr s x f => fieldAddrX P s (tm x) f
  | .indexAddr t x i => indexAddrX P t (tm x) (tm i)
  | .extract t i => match tm t with
    | .tuple vs => vs[i]?
    | _ => none
  | .makeInterface t x => match P.underlying t with
    | some (.interface _) => none
    | some _ => some (.iface t (tm x))
    | none => none
  | .makeFunc fn a b => some (.func fn (a.map tm) (b.map tm))
  | .field t x f => fieldX P t (tm x) f
  | .slice t x lo hi mx => orElse (freeX P tm o) (sliceX P t (tm x) (lo.map tm) (hi.map tm) (mx.map tm))
  | .index t x i => orElse (freeX P tm o) (indexX P t (tm x) (tm i))
  | .binOp .eql t x y _ => orElse (freeX P tm o) (match eqX P t x y (tm x) (tm y) with | some b => some (.bool b) | none => none)
  | .binOp .neq t x y _ => orElse (freeX P tm o) (match eqX P t x y (tm x) (tm y) with | some b => some (.bool !b) | none => none)
  | .call { callee := .builtin .len, args, argTypes } => orElse (freeX P tm o) (match argTypes[0]?, args[0]? with
    | some t, some x => lenX P t (tm x)
    | _, _ => none)
  | .binOp _ _ _ _ _ => freeX P tm o
  | .unOp _ _ _ => freeX P tm o
  | .convert _ _ _ => freeX P tm o
  | .typeAssert _ _ _ _ => freeX P tm o
  | .call _ => freeX P tm o
  | _ => none

theorem orElse_some {a b : Option Value} {v : Value} (h : orElse a b = some v) : a = some v ∨ b = some v := by
  cases a <;> simp_all [orElse]

theorem map_ops {ρ : Nat → Loc} {tm cev : Operand → Value} {xs : Option Operand} (h : ∀ x, x ∈ xs.toArray → cev x = ren ρ (tm x)) : xs.map cev = (xs.map tm).map (ren ρ) := by
  cases xs with
  | none => rfl
  | some x => simp [h x (by simp)]

theorem arr_ops {ρ : Nat → Loc} {tm cev : Operand → Value} {xs : Array Operand} (h : ∀ x, x ∈ xs → cev x = ren ρ (tm x)) : xs.map cev = (xs.map tm).map (ren ρ) := by
  rw [Array.map_map]
  exact Array.map_congr_left h

theorem pureX_run {P : Program} {ρ : Nat → Loc} {tm cev : Operand → Value} {o : Oper} {v : Value} (h : pureX P tm o = some v)
    (hev : ∀ x, x ∈ o.op.operands → cev x = ren ρ (tm x)) (w : World) :
    (execOp cev o).run P w = .ok (.value (ren ρ v)) w := by
  unfold pureX at h
  split at h
  case h_1 x ho =>
    simp only [Option.some.injEq] at h; subst h
    rw [ho] at hev
    simp only [execOp, ho, Sem.run_pure, hev x (by simp [Op.operands])]
  case h_2 x ho =>
    simp only [Option.some.injEq] at h; subst h
    rw [ho] at hev
    simp only [execOp, ho, Sem.run_pure, hev x (by simp [Op.operands])]
  case h_3 c a b ho =>
    rw [ho] at hev
    split at h
    · rename_i t ht
      simp only [Option.some.injEq] at h; subst h
      simp only [execOp, ho, Sem.run_bind, hev c (by simp [Op.operands]), hev a (by simp [Op.operands]), hev b (by simp [Op.operands]), ht, ren, asBool, Sem.run_pure, Result.andThen_ok]
      cases t <;> rfl
    · cases h
  case h_4 t ps ho =>
    rw [ho] at hev
    simp only [execOp, ho, Sem.run_bind]
    have : (ps.map fun (i, x) => (i, cev x)) = ((ps.toList.map fun p => (p.1, tm p.2)).map fun p => (p.1, ren ρ p.2)).toArray := by
      apply Array.ext'
      simp only [Array.toList_map, List.map_map]
      apply List.map_congr_left
      intro p hp
      obtain ⟨i, x⟩ := p
      simp only [Function.comp, Prod.mk.injEq, true_and]
      exact hev x (by simp only [Op.operands]; simp; exact ⟨i, by simpa using hp⟩)
    rw [this, build_run h w]; rfl
  case h_5 x ho =>
    rw [ho] at hev
    simp only [execOp, ho, hev x (by simp [Op.operands])]
    unfold nilCheckX at h
    split at h <;> first | (rename_i e; rw [e]; simp only [Option.some.injEq] at h; subst h; simp [ren]; done) | cases h
  case h_6 s x f ho =>
    rw [ho] at hev
    simp only [execOp, ho, Sem.run_bind, hev x (by simp [Op.operands]), fieldAddr_run h w]; rfl
  case h_7 t x i ho =>
    rw [ho] at hev
    simp only [execOp, ho, Sem.run_bind, hev x (by simp [Op.operands]), hev i (by simp [Op.operands]), indexAddr_run h w]; rfl
  case h_8 t i ho =>
    rw [ho] at hev
    split at h
    · rename_i vs hv
      simp only [execOp, ho, Sem.run_bind, hev t (by simp [Op.operands]), hv, ren, Instr.extract, renArr_eq, Array.getElem?_map, h]; rfl
    · cases h
  case h_9 t x ho =>
    rw [ho] at hev
    split at h
    · cases h
    · rename_i d hd hu
      simp only [Option.some.injEq] at h; subst h
      simp only [execOp, ho, Sem.run_bind, hev x (by simp [Op.operands]), Instr.makeInterface, run_underlying hu, Result.andThen_ok, ren]; rfl
    · cases h
  case h_10 fn a b ho =>
    rw [ho] at hev
    simp only [Option.some.injEq] at h; subst h
    simp only [Op.operands, Array.mem_append] at hev
    simp only [execOp, ho, Sem.run_bind, Instr.makeFunc, Sem.run_pure, Result.andThen_ok, ren, renArr_eq, arr_ops (xs := a) (fun x hx => hev x (.inl hx)), arr_ops (xs := b) (fun x hx => hev x (.inr hx))]
  case h_11 t x f ho =>
    rw [ho] at hev
    simp only [execOp, ho, Sem.run_bind, hev x (by simp [Op.operands]), field_run h w]; rfl
  case h_12 t x lo hi mx ho =>
    rcases orElse_some h with h | h
    · exact freeX_run (by rw [ho]; rfl) h hev w
    · rw [ho] at hev
      simp only [Op.operands, Array.mem_append] at hev
      simp only [execOp, ho, Sem.run_bind, hev x (.inl (.inl (.inl (by simp)))), map_ops (xs := lo) (fun x hx => hev x (.inl (.inl (.inr hx)))), map_ops (xs := hi) (fun x hx => hev x (.inl (.inr hx))), map_ops (xs := mx) (fun x hx => hev x (.inr hx)), slice_run h w]; rfl
  case h_13 t x i ho =>
    rcases orElse_some h with h | h
    · exact freeX_run (by rw [ho]; rfl) h hev w
    · rw [ho] at hev
      simp only [execOp, ho, Sem.run_bind, hev x (by simp [Op.operands]), hev i (by simp [Op.operands]), index_run h w]; rfl
  case h_14 t x y yt ho =>
    rcases orElse_some h with h | h
    · exact freeX_run (by rw [ho]; rfl) h hev w
    · rw [ho] at hev
      split at h
      · rename_i b hb
        simp only [Option.some.injEq] at h; subst h
        have := (eq_run (ρ := ρ) hb w).1
        simp only [Sem.run_bind] at this
        simp only [execOp, ho, Sem.run_bind, hev x (by simp [Op.operands]), hev y (by simp [Op.operands]), this, Result.andThen_ok, ren]; rfl
      · cases h
  case h_15 t x y yt ho =>
    rcases orElse_some h with h | h
    · exact freeX_run (by rw [ho]; rfl) h hev w
    · rw [ho] at hev
      split at h
      · rename_i b hb
        simp only [Option.some.injEq] at h; subst h
        have := (eq_run (ρ := ρ) hb w).2
        simp only [Sem.run_bind] at this
        simp only [execOp, ho, Sem.run_bind, hev x (by simp [Op.operands]), hev y (by simp [Op.operands]), this, Result.andThen_ok, ren]; rfl
      · cases h
  case h_16 args ts ho =>
    rcases orElse_some h with h | h
    · exact freeX_run (by rw [ho]; rfl) h hev w
    · rw [ho] at hev
      split at h
      · rename_i t x ht hx
        have hm := Array.mem_of_getElem? hx
        have := len_run (ρ := ρ) (ty := o.type) h ht (xs := args.map cev) (by rw [Array.getElem?_map, hx, Option.map_some, hev x (by simp [Op.operands, Call.operands, hm])]) w
        simp only [execOp, ho, resolve, Sem.run_bind, Sem.run_pure, Result.andThen_ok, invoke, builtin, this.1, this.2]
      · cases h
  case h_17 ho => exact freeX_run (by rw [ho]; rfl) h hev w
  case h_18 ho => exact freeX_run (by rw [ho]; rfl) h hev w
  case h_19 ho => exact freeX_run (by rw [ho]; rfl) h hev w
  case h_20 ho => exact freeX_run (by rw [ho]; rfl) h hev w
  case h_21 ho => exact freeX_run (by rw [ho]; rfl) h hev w
  case h_22 => cases h

end
end Go.AX

namespace Go.AX
noncomputable section
open Go

/-! ### loads -/
def loadX (P : Program) (t : TypeId) (a : Value) (h : H) : Option Value :=
  match a with
  | .pointer (some ⟨b, o, none⟩) =>
    match isAggB P t, sizeB P t with
    | some true, some n => match h.read b o n with
      | some l => some (.agg l.toArray)
      | none => none
    | some false, some _ => match h.read b o 1 with
      | some [v] => some v
      | _ => none
    | _, _ => none
  | _ => none

theorem loadCells_run {P : Program} {w : World} {B o : Nat} {C : Array Value} {el : TypeId} {fz : Nat × Nat} (hC : w.heap[B]? = some (.cells C el fz)) :
    ∀ (l : List Value) (i : Nat) (acc : Array Value), (∀ j v, l[j]? = some v → C[o + i + j]? = some v) →
    (loadCellsFrom ⟨B, o, none⟩ i l.length acc).run P w = .ok (acc ++ l.toArray) w
  | [], i, acc, _ => by simp [loadCellsFrom]
  | v :: l, i, acc, h => by
    have h0 := h 0 v (by simp)
    have hc : w.cell? ⟨B, o + i, none⟩ = some v := by simp only [World.cell?, hC]; simpa using h0
    simp only [List.length_cons, loadCellsFrom, Sem.run_bind, add_eq, run_load, hc, Result.andThen_ok]
    rw [loadCells_run hC l (i + 1) (acc.push v) (fun j u hj => by
      have := h (j + 1) u (by simpa using hj)
      rwa [show o + (i + 1) + j = o + i + (j + 1) from by omega])]
    simp

theorem cellsAt_run {P : Program} {ρ : Nat → Loc} {h : H} {w : World} (s : Sim ρ h w) {b o n : Nat} {l : List Value} (hr : h.read b o n = some l) :
    (loadCells ⟨(ρ b).B, (ρ b).off + o, none⟩ n).run P w = .ok (l.map (ren ρ)).toArray w := by
  obtain ⟨hlen, hok, C, el, fz, hC, hroom, hcs⟩ := s.read hr
  have := loadCells_run (P := P) (o := (ρ b).off + o) hC (l.map (ren ρ)) 0 #[] (fun j v hj => by
    rw [List.getElem?_map] at hj
    cases hl : l[j]? with
    | none => rw [hl] at hj; cases hj
    | some u =>
      rw [hl] at hj
      simp only [Option.map_some, Option.some.injEq] at hj; subst hj
      exact hcs j u hl)
  simp only [List.length_map, hlen] at this
  simp only [loadCells, this]
  simp

theorem load_run {P : Program} {ρ : Nat → Loc} {h : H} {w : World} {t : TypeId} {a v : Value} (hl : loadX P t a h = some v) (s : Sim ρ h w) :
    (Instr.loadAt t (ren ρ a)).run P w = .ok (ren ρ v) w ∧ ok h.size v = true := by
  unfold loadX at hl
  split at hl
  · rename_i b o
    split at hl
    · rename_i n h1 h2
      split at hl
      · rename_i l hr
        simp only [Option.some.injEq] at hl; subst hl
        refine ⟨?_, ?_⟩
        · simp only [Instr.loadAt, Instr.sureAddr, ren, renA, Sem.run_bind, Sem.run_pure, Result.andThen_ok, loadVar, isAgg_run h1, if_true, size_run h2, cellsAt_run s hr]
          simp [renArr, renL_eq]
        · simp only [ok, okA, okL_eq]
          exact List.all_eq_true.2 (s.read hr).2.1
      · cases hl
    · rename_i n h1 h2
      split at hl
      · rename_i u hr
        simp only [Option.some.injEq] at hl; subst hl
        obtain ⟨hlen, hok, C, el, fz, hC, hroom, hcs⟩ := s.read hr
        refine ⟨?_, hok _ (by simp)⟩
        have h0 := hcs 0 u (by simp)
        have hc : w.cell? ⟨(ρ b).B, (ρ b).off + o, none⟩ = some (ren ρ u) := by simp only [World.cell?, hC]; simpa using h0
        simp only [Instr.loadAt, Instr.sureAddr, ren, renA, Sem.run_bind, Sem.run_pure, Result.andThen_ok, loadVar, isAgg_run h1, Bool.false_eq_true, if_false, run_load, hc]
      · cases hl
    · cases hl
  · cases hl

/-! ### new rows -/
def sizedZero (P : Program) (e : TypeId) : Option (Value × TypeInfo) :=
  match P.info? e with
  | some i => match i.zero with
    | some z => cond (free z) (cond (Nat.beq z.cells.size i.size) (some (z, i)) none) none
    | none => none
  | none => none

theorem sizedZero_run {P : Program} {e : TypeId} {z : Value} {i : TypeInfo} (h : sizedZero P e = some (z, i)) :
    P.info? e = some i ∧ free z = true ∧ z.cells.size = i.size ∧ i.zero = some z ∧ (∀ w, (zeroValue e).run P w = .ok z w) ∧ (∀ w, (sizeOf e).run P w = .ok i.size w) ∧ (∀ w, (typeInfo e).run P w = .ok i w) := by
  unfold sizedZero at h
  split at h
  · rename_i j hj
    split at h
    · rename_i z' hz
      obtain ⟨h1, h2⟩ := cond_some h
      obtain ⟨h3, h4⟩ := cond_some h2
      simp only [Option.some.injEq, Prod.mk.injEq] at h4
      obtain ⟨rfl, rfl⟩ := h4
      exact ⟨hj, h1, nbeq_true h3, hz, fun w => by simp [zeroValue, typeInfo, hj, hz], fun w => by simp [sizeOf, typeInfo, hj], fun w => by simp [typeInfo, hj]⟩
    · cases h
  · cases h

/-- so many times the same cells -/
def repL : Nat → List Value → List Value
  | 0, _ => []
  | n + 1, l => l ++ repL n l

theorem range_rep (L : List Value) : ∀ n : Nat, (List.range (n * L.length)).map (fun j => L[j % L.length]!) = repL n L
  | 0 => by simp [repL]
  | n + 1 => by
    rw [show (n + 1) * L.length = L.length + n * L.length by rw [Nat.add_mul]; omega, List.range_add, List.map_append, List.map_map]
    simp only [repL]
    congr 1
    · apply List.ext_getElem?
      intro i
      rw [List.getElem?_map]
      by_cases hi : i < L.length
      · rw [List.getElem?_range hi]
        simp only [Option.map_some, Nat.mod_eq_of_lt hi]
        rw [getElem!_pos L i hi, List.getElem?_eq_getElem hi]
      · rw [List.getElem?_eq_none (by simpa using hi), List.getElem?_eq_none (by omega)]; rfl
    · rw [← range_rep L n]
      apply List.map_congr_left
      intro j _
      simp only [Function.comp, Nat.add_mod_left]

theorem zeros_list (z : Value) (n s : Nat) (hs : z.cells.size = s) : ((Array.range (n * s)).map (z.cells[· % z.cells.size]!)).toList = repL n z.cells.toList := by
  subst hs
  rw [← range_rep z.cells.toList n]
  simp only [Array.toList_map, Array.toList_range, Array.length_toList]
  apply List.map_congr_left
  intro j _
  by_cases h : j % z.cells.size < z.cells.size
  · rw [getElem!_pos z.cells _ h, getElem!_pos z.cells.toList _ (by simpa using h)]; simp
  · rw [getElem!_neg z.cells _ h, getElem!_neg z.cells.toList _ (by simpa using h)]

def allocX (P : Program) (tm : Operand → Value) (o : Oper) : Option (List Value × (Nat → Value)) :=
  match o.op with
  | .alloc e => match zeroB P e with
    | some z => some (z.cells.toList, fun b => .pointer (some ⟨b, 0, none⟩))
    | none => none
  | .box _ x => some ((tm x).cells.toList, fun b => .pointer (some ⟨b, 0, none⟩))
  | .buildSlice t n ps => match P.underlying t with
    | some (.slice e) => match sizedZero P e with
      | some (z, i) => cond (Nat.ble (n * i.size) 65536)
        (match Instr.fill (fun j => some (j * i.size, i.size)) ((Array.range (n * i.size)).map (z.cells[· % z.cells.size]!)) (ps.toList.map fun p => (p.1, tm p.2)) with
         | some cs => some (cs.toList, fun b => .slice (some ⟨b, 0, none⟩) n (2 * n))
         | none => none) none
      | none => none
    | _ => none
  | .makeSlice t l c => match P.underlying t, tm l, tm c with
    | some (.slice e), .int _ (.ofNat l), .int _ (.ofNat c) => match sizedZero P e with
      | some (z, i) => cond (Nat.ble l c) (cond (Nat.ble c 65536) (cond (Nat.ble i.bytes 65536)
          (some (repL c z.cells.toList, fun b => .slice (some ⟨b, 0, none⟩) l (2 * c))) none) none) none
      | none => none
    | _, _, _ => none
  | _ => none

theorem zeros_ren {ρ : Nat → Loc} {z : Value} (hz : free z = true) (n : Nat) :
    ((Array.range n).map (z.cells[· % z.cells.size]!)).map (ren ρ) = (Array.range n).map (z.cells[· % z.cells.size]!) := by
  rw [Array.map_map]
  apply Array.map_congr_left
  intro i _
  simp only [Function.comp]
  apply ren_free
  have hf : ∀ v, v ∈ z.cells → free v = true := by
    cases z with
    | agg a =>
      simp only [free, freeA_eq] at hz
      intro v hv
      exact List.all_eq_true.1 hz v (by simpa [Value.cells] using hv)
    | _ => intro v hv; simp only [Value.cells, List.mem_toArray, List.mem_singleton] at hv; subst hv; exact hz
  by_cases hs : i % z.cells.size < z.cells.size
  · rw [getElem!_pos z.cells _ hs]; exact hf _ (Array.getElem_mem hs)
  · rw [getElem!_neg z.cells _ hs]; rfl

theorem i64_small {n : Nat} (h : n ≤ 65536) : IntKind.i64.wrap (Int.ofNat n) = n := by
  have : (Int.ofNat n) = (n : Int) := rfl
  rw [this]
  simp only [IntKind.wrap, IntKind.bits, IntKind.signed]
  simp
  omega

def NewRow (P : Program) (ρ : Nat → Loc) (r : World → Result Next) (cs : List Value) (mk : Nat → Value) : Prop :=
  ∀ (w : World) (b : Nat), ∃ el, r w = .ok (.value (ren (ext ρ b ⟨w.heap.size, 0, 0⟩) (mk b))) { w with heap := w.heap.push (.cells (cs.map (ren ρ)).toArray el (0, 0)) }

theorem makeSlice_run {P : Program} {t e : TypeId} {z : Value} {i : TypeInfo} {k1 k2 : IntKind} {l c : Nat} (hu : P.underlying t = some (.slice e)) (hz : sizedZero P e = some (z, i))
    (h1 : l ≤ c) (h2 : c ≤ 65536) (h3 : i.bytes ≤ 65536) (w : World) :
    (Instr.makeSlice t (.int k1 (Int.ofNat l)) (.int k2 (Int.ofNat c))).run P w =
      .ok (.slice (some ⟨w.heap.size, 0, none⟩) l c) { w with heap := w.heap.push (.cells ((Array.range (c * i.size)).map (z.cells[· % z.cells.size]!)) e (0, 0)) } := by
  obtain ⟨hi, hzf, hzs, _, hzr, hsr, hti⟩ := sizedZero_run hz
  unfold Instr.makeSlice
  rw [Sem.run_bind, run_underlying hu]
  simp only [Result.andThen_ok]
  rw [Sem.run_bind]
  simp only [asInt, asIntOf]
  simp only [Sem.run_bind, Sem.run_pure, Result.andThen_ok, hti]
  rw [i64_small h2, i64_small (Nat.le_trans h1 h2)]
  have hmul : (i.bytes : Int) * (c : Int) ≤ 4294967296 := by
    have h' : i.bytes * c ≤ 4294967296 := Nat.le_trans (Nat.mul_le_mul h3 h2) (by decide)
    have h'' : ((i.bytes * c : Nat) : Int) ≤ 4294967296 := by omega
    rwa [Int.natCast_mul] at h''
  have ha : decide ((c : Int) < 0) = false := decide_eq_false (by omega)
  have hb : decide ((i.bytes : Int) * (c : Int) > 2 ^ 48) = false := decide_eq_false (by
    intro h
    have : (2 : Int) ^ 48 = 281474976710656 := by decide
    omega)
  have hc : decide ((l : Int) < 0) = false := decide_eq_false (by omega)
  have hd : decide ((l : Int) > (c : Int)) = false := decide_eq_false (by omega)
  rw [ha, hb, hc, hd]
  simp only [Bool.or_false, Bool.false_eq_true, if_false]
  simp only [Sem.run_bind, run_askRoom, Result.andThen_ok, hsr, Int.toNat_natCast]
  by_cases h0 : c * i.size = 0
  · rw [if_pos h0]
    have hr0 : (Array.range (c * i.size)).map (z.cells[· % z.cells.size]!) = #[] := by rw [h0]; simp
    simp only [Sem.run_bind, Sem.run_pure, Result.andThen_ok, newRow, run_newObj, hr0, h0, Array.range_zero', Array.map_empty]
  · rw [if_neg h0]
    simp only [Sem.run_bind, Sem.run_pure, Result.andThen_ok, newRow, run_newObj, hzr]

theorem alloc_run {P : Program} {ρ : Nat → Loc} {tm cev : Operand → Value} {o : Oper} {cs : List Value} {mk : Nat → Value} (h : allocX P tm o = some (cs, mk))
    (hev : ∀ x, x ∈ o.op.operands → cev x = ren ρ (tm x)) : NewRow P ρ (fun w => (execOp cev o).run P w) cs mk := by
  intro w b
  unfold allocX at h
  split at h
  · rename_i e ho
    split at h
    · rename_i z hz
      simp only [Option.some.injEq, Prod.mk.injEq] at h
      obtain ⟨rfl, rfl⟩ := h
      obtain ⟨h1, h2⟩ := zero_run hz w
      refine ⟨e, ?_⟩
      have hcf := cells_free (ρ := ρ) h2
      simp only [execOp, ho, Sem.run_bind, Instr.alloc, h1, Result.andThen_ok, newVar, newRow, run_newObj, Sem.run_pure]
      rw [← Array.toList_map, hcf]
      simp [ren, renA, ext_self]
    · cases h
  · rename_i e x ho
    rw [ho] at hev
    simp only [Option.some.injEq, Prod.mk.injEq] at h
    obtain ⟨rfl, rfl⟩ := h
    refine ⟨e, ?_⟩
    simp only [execOp, ho, Sem.run_bind, Instr.box, Result.andThen_ok, newVar, newRow, run_newObj, Sem.run_pure, hev x (by simp [Op.operands])]
    rw [← ren_cells]
    simp [ren, renA, ext_self]
  · rename_i t n ps ho
    rw [ho] at hev
    split at h
    · rename_i e hu
      split at h
      · rename_i z i hz
        obtain ⟨h1, h2⟩ := cond_some h
        have h1 := nble_true h1
        split at h2
        · rename_i cs' hf
          simp only [Option.some.injEq, Prod.mk.injEq] at h2
          obtain ⟨rfl, rfl⟩ := h2
          obtain ⟨hi, hzf, hzs, _, hzr, hsr, _⟩ := sizedZero_run hz
          refine ⟨e, ?_⟩
          have hparts : (ps.map fun p => (p.1, cev p.2)).toList = ((ps.toList.map fun p => (p.1, tm p.2)).map fun p => (p.1, ren ρ p.2)) := by
            simp only [Array.toList_map, List.map_map]
            apply List.map_congr_left
            intro p hp
            obtain ⟨i, x⟩ := p
            simp only [Function.comp, Prod.mk.injEq, true_and]
            exact hev x (by simp only [Op.operands]; simp; exact ⟨i, by simpa using hp⟩)
          have hfr := fill_ren ρ _ _ _ _ hf
          rw [zeros_ren hzf, ← hparts] at hfr
          have hfin : cs'.map (ren ρ) = (List.map (ren ρ) cs'.toList).toArray := by apply Array.ext'; simp
          simp only [execOp, ho, Sem.run_bind, Instr.buildSlice, run_underlying hu, Result.andThen_ok, hsr]
          rw [if_neg (by omega)]
          by_cases h0 : n * i.size = 0
          · rw [if_pos h0]
            have hr0 : (Array.range (n * i.size)).map (z.cells[· % z.cells.size]!) = #[] := by rw [h0]; simp
            rw [hr0] at hfr
            simp only [Sem.run_bind, Sem.run_pure, Result.andThen_ok, h0, Array.range_zero', Array.map_empty]
            rw [hfr]
            simp only [newRow, Sem.run_bind, run_newObj, Sem.run_pure, Result.andThen_ok, ren, renA, ext_self, renC_exact, Nat.add_zero, hfin]
          · rw [if_neg h0]
            simp only [Sem.run_bind, Sem.run_pure, Result.andThen_ok, hzr]
            rw [hfr]
            simp only [newRow, Sem.run_bind, run_newObj, Sem.run_pure, Result.andThen_ok, ren, renA, ext_self, renC_exact, Nat.add_zero, hfin]
        · cases h2
      · cases h
    · cases h
  · rename_i t l c ho
    rw [ho] at hev
    split at h
    · rename_i e k1 l' k2 c' hu hl hc
      split at h
      · rename_i z i hz
        obtain ⟨h1, h⟩ := cond_some h
        obtain ⟨h2, h⟩ := cond_some h
        obtain ⟨h3, h⟩ := cond_some h
        have h1 := nble_true h1
        have h2 := nble_true h2
        have h3 := nble_true h3
        simp only [Option.some.injEq, Prod.mk.injEq] at h
        obtain ⟨rfl, rfl⟩ := h
        obtain ⟨hi, hzf, hzs, _, hzr, hsr, hti⟩ := sizedZero_run hz
        refine ⟨e, ?_⟩
        have hl' : cev l = .int k1 (Int.ofNat l') := by rw [hev l (by simp [Op.operands]), hl]; simp only [ren]
        have hc' : cev c = .int k2 (Int.ofNat c') := by rw [hev c (by simp [Op.operands]), hc]; simp only [ren]
        simp only [execOp, ho, Sem.run_bind]
        rw [hl', hc', makeSlice_run hu hz h1 h2 h3 w]
        simp only [Result.andThen_ok, Sem.run_pure, ren, renA, ext_self, renC_exact, Nat.add_zero]
        congr 4
        apply Array.ext'
        rw [← zeros_list z c' i.size hzs, ← Array.toList_map, zeros_ren hzf]
      · cases h
    · cases h
  · cases h

end
end Go.AX
