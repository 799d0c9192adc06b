import Derived.Test.YtnamakmnlagpgaaGreatDoorLaw
import Derived.ProofKit
import Derived.LaidMore
import Derived.OpenShut
import Derived.Stop.Joined
import Derived.Stop.LaidErr
import Derived.SliceStrings
import Derived.Deep.Slices
import Derived.Deep.Fields
import Derived.ChangeSame
set_option linter.unusedVariables false
set_option linter.unusedSimpArgs false
namespace Go.Proofs.YtnamakmnlagpgaaGreatDoor
open Go Go.ChangeShapes Go.WideShapes Go.ChangeAt Go.RowKit Go.Deep

section
variable {H : Type} {enc : TypeId × Value → H} {w : World} {base : Nat} {spare : Nat → Bool} {held : Bool}

theorem oneS : Tryz.prog.cellsOf 9 = 1 := by kernel_rfl
theorem oneB : Tryz.prog.cellsOf 5 = 1 := by kernel_rfl
theorem rowC : Tryz.prog.cellsOf 28 = 5 := by kernel_rfl
theorem int_wf {n : Int} (h : (Lit.int .i64 n).wf = true) : -9223372036854775808 ≤ n ∧ n ≤ 9223372036854775807 := by
  have h1 : IntKind.i64.min = -9223372036854775808 := rfl
  have h2 : IntKind.i64.max = 9223372036854775807 := rfl
  simp only [Lit.wf, Bool.and_eq_true, decide_eq_true_eq] at h
  exact ⟨by omega, by omega⟩
theorem byte_wf {n : Int} (h : (Lit.int .u8 n).wf = true) : 0 ≤ n ∧ n ≤ 255 := by
  have h1 : IntKind.u8.min = 0 := rfl
  have h2 : IntKind.u8.max = 255 := rfl
  simp only [Lit.wf, Bool.and_eq_true, decide_eq_true_eq] at h
  exact ⟨by omega, by omega⟩

/-- a slice of bytes that came in -/
theorem open_b {fuel : Nat} {v : Value} {x : DataW H × List MemPlace} (h : DataW.trod enc Tryz.prog w base spare held fuel 26 [v] = some x) :
    ∃ A n c b, v = .slice A n c ∧ BytesS w (.slice A n c) b := by
  rcases open_ints Tryz.underlying26 Tryz.underlying5 oneB h with ⟨hcs, _⟩ | ⟨a, len, cap, zs, hcs, _, hl, hm, hz, _, hc, hw⟩
  · simp only [List.cons.injEq, and_true] at hcs
    exact ⟨none, 0, 0, [], hcs, .inl ⟨rfl, _, _, rfl⟩⟩
  · simp only [List.cons.injEq, and_true] at hcs
    have hlz : len ≤ zs.length := by rw [hz]; split <;> omega
    by_cases h0 : len = 0
    · subst h0
      exact ⟨some a, 0, cap, [], hcs, .inl ⟨rfl, _, _, rfl⟩⟩
    · obtain ⟨b, o, sp⟩ := a
      have hsp : sp = none := by simpa [Addr.add] using World.cell?_spot (hc 0 (by omega))
      subst hsp
      refine ⟨_, len, cap, (zs.take len).map (fun z => UInt8.ofNat z.toNat), hcs, .inr ⟨b, o, cap, by rw [List.length_map, List.length_take]; congr 1; omega, World.block_lt_of_cell? w _ (hc 0 (by omega)), fun j y hj => ?_⟩⟩
      rw [List.getElem?_map] at hj
      cases hzj : (zs.take len)[j]? with
      | none => rw [hzj] at hj; cases hj
      | some z =>
        rw [hzj] at hj
        simp only [Option.map_some, Option.some.injEq] at hj
        have hjl : j < len := by
          have := (List.getElem?_eq_some_iff.1 hzj).1
          rw [List.length_take] at this; omega
        rw [List.getElem?_take_of_lt hjl] at hzj
        have h1 := hc j (by omega)
        rw [add_plain0] at h1
        rw [h1]
        have h2 : zs.getD j 0 = z := by simp [List.getD, hzj]
        have h3 := byte_wf (hw z (List.mem_of_getElem? hzj))
        rw [h2, ← hj]
        have h4 : ((UInt8.ofNat z.toNat).toNat : Int) = z := by
          rw [UInt8.toNat_ofNat_of_lt' (by show z.toNat < 256; omega)]
          omega
        rw [h4]
/-- a slice of texts that came in -/
theorem open_t {fuel : Nat} {v : Value} {x : DataW H × List MemPlace} (h : DataW.trod enc Tryz.prog w base spare held fuel 24 [v] = some x) :
    ∃ A n c ls, v = .slice A n c ∧ TextsS w (.slice A n c) ls ∧ ls.length ≤ 9223372036854775807 ∧ ∀ x ∈ ls, x.size ≤ 9223372036854775807 := by
  rcases open_strings Tryz.underlying24 Tryz.underlying9 oneS h with ⟨hcs, _⟩ | ⟨a, len, cap, ss, hcs, _, hl, hm, hz, _, hc, hw⟩
  · simp only [List.cons.injEq, and_true] at hcs
    exact ⟨none, 0, 0, [], hcs, .inl ⟨rfl, rfl⟩, by simp, fun x hx => by cases hx⟩
  · simp only [List.cons.injEq, and_true] at hcs
    have hlz : len ≤ ss.length := by rw [hz]; split <;> omega
    have hmax : maxLen = 9223372036854775807 := rfl
    refine ⟨some a, len, cap, ss.take len, hcs, .inr ⟨a, cap, by rw [List.length_take]; congr 1; omega, ?_, fun j x hj => ?_⟩, by rw [List.length_take]; omega, fun x hx => by have := hw x (List.mem_of_mem_take hx); omega⟩
    · by_cases h0 : len = 0
      · left; rw [h0]; rfl
      · right
        have := World.block_lt_of_cell? w _ (hc 0 (by omega))
        have e : (a.add 0).block = a.block := by unfold Addr.add; split <;> rfl
        rw [e] at this; exact this
    · have hjl : j < len := by
        have := (List.getElem?_eq_some_iff.1 hj).1
        rw [List.length_take] at this; omega
      rw [List.getElem?_take_of_lt hjl] at hj
      rw [hc j (by omega)]
      simp [List.getD, hj]

theorem rowU : ∃ fs, Tryz.prog.underlying 28 = some (.struct fs) ∧ fs.size = 5 ∧ oneCellFields Tryz.prog fs = true ∧ fs.toList.map (·.type) = [3, 3, 3, 26, 24] := by
  refine ⟨_, Tryz.underlying28, by kernel_rfl, by kernel_rfl, by kernel_rfl⟩
theorem intU : Tryz.prog.underlying 3 = some (.int .i64) := Tryz.underlying3

theorem list5 {α : Type} {l : List α} (h : l.length = 5) : ∃ c0 c1 c2 c3 c4, l = [c0, c1, c2, c3, c4] := by
  match l, h with
  | [c0, c1, c2, c3, c4], _ => exact ⟨c0, c1, c2, c3, c4, rfl⟩
set_option maxRecDepth 100000 in
/-- one row that came in -/
theorem open_row {n : Nat} {cs : List Value} {x : DataW H × List MemPlace} (h : DataW.trod enc Tryz.prog w base spare held n 28 cs = some x) :
    ∃ t : It, cs = t.row ∧ t.Raw w := by
  obtain ⟨fs, hu, hsz, hone, htys⟩ := rowU
  obtain ⟨ys, n', _, _, hlen, hyl, hf⟩ := DataW.trod_struct hu h
  rw [rowC] at hlen
  obtain ⟨c0, c1, c2, c3, c4, rfl⟩ := list5 hlen
  have each : ∀ (j : Nat) (T : TypeId) (c : Value), (fs.toList.map (·.type))[j]? = some T → [c0, c1, c2, c3, c4][j]? = some c → ∃ y, DataW.trod enc Tryz.prog w base spare held n' T [c] = some y := fun j T c hT hc => by
    rw [List.getElem?_map] at hT
    cases hfj : fs.toList[j]? with
    | none => rw [hfj] at hT; cases hT
    | some f =>
      rw [hfj] at hT
      simp only [Option.map_some, Option.some.injEq] at hT
      have hfj' : fs[j]? = some f := by simpa using hfj
      obtain ⟨ho, hk⟩ := hone_of hone j f hfj'
      have h1 := hf j f hfj'
      rw [ho, hk, hT] at h1
      have hj : j < 5 := (List.getElem?_eq_some_iff.1 hc).1
      have e : ([c0, c1, c2, c3, c4].drop j).take 1 = [c] := by
        rw [List.drop_eq_getElem_cons hj]
        have := (List.getElem?_eq_some_iff.1 hc).2
        simp [this]
      rw [e] at h1
      have hjy : j < ys.length := by rw [hyl, hsz]; exact hj
      rw [List.getElem?_eq_getElem hjy] at h1
      exact ⟨_, h1⟩
  rw [htys] at each
  obtain ⟨y0, h0⟩ := each 0 _ _ rfl rfl
  obtain ⟨y1, h1⟩ := each 1 _ _ rfl rfl
  obtain ⟨y2, h2⟩ := each 2 _ _ rfl rfl
  obtain ⟨y3, h3⟩ := each 3 _ _ rfl rfl
  obtain ⟨y4, h4⟩ := each 4 _ _ rfl rfl
  obtain ⟨k, e0, _, w0⟩ := DataW.trod_int intU h0
  obtain ⟨m, e1, _, w1⟩ := DataW.trod_int intU h1
  obtain ⟨x, e2, _, w2⟩ := DataW.trod_int intU h2
  obtain ⟨A1, n1, c1', b, rfl, hb⟩ := open_b h3
  obtain ⟨A2, n2, c2', ls, rfl, hv, hl, hz⟩ := open_t h4
  simp only [List.cons.injEq, and_true] at e0 e1 e2
  subst e0 e1 e2
  exact ⟨⟨k, m, x, A1, n1, c1', A2, n2, c2', b, ls⟩, rfl, hb, hv, hl, hz, (int_wf w0).1, (int_wf w0).2, (int_wf w1).1, (int_wf w1).2⟩

/-- the list of rows that came in -/
theorem open_rows {fuel : Nat} {v : Value} {x : DataW H × List MemPlace} (h : DataW.trod enc Tryz.prog w base spare held fuel 22 [v] = some x) :
    (∃ A c, v = .slice A 0 c) ∨ ∃ (b o c : Nat) (its : List It), v = .slice (some ⟨b, o, none⟩) its.length c ∧ its.length ≤ 9223372036854775807 ∧ b < w.heap.size ∧
      ∀ (i : Nat) t, its[i]? = some t → t.Raw w ∧ ∀ (j : Nat) v, t.row[j]? = some v → w.cell? ⟨b, o + 5 * i + j, none⟩ = some v := by
  rcases open_slice Tryz.underlying22 h with ⟨hcs, _⟩ | ⟨a, len, cap, m, n, D, Pl, hcs, _, hl, hm, hmm, _, hi⟩
  · simp only [List.cons.injEq, and_true] at hcs
    exact .inl ⟨none, 0, hcs⟩
  · simp only [List.cons.injEq, and_true] at hcs
    by_cases h0 : len = 0
    · subst h0
      exact .inl ⟨_, cap, hcs⟩
    · right
      have hlm : len ≤ m := by rw [hmm]; split <;> omega
      have each : ∀ i, i < m → ∃ t : It, t.Raw w ∧ ∀ (j : Nat) v, t.row[j]? = some v → w.cell? (a.add (i * 5 + j)) = some v := fun i him => by
        obtain ⟨cs', hc, ht'⟩ := hi i him
        rw [rowC] at hc
        obtain ⟨t, rfl, hr⟩ := open_row ht'
        obtain ⟨_, hcl, hat⟩ := World.cells?_some hc
        refine ⟨t, hr, fun j v hj => ?_⟩
        have hjl : j < 5 := (List.getElem?_eq_some_iff.1 hj).1
        rw [← Go.Deep.add_add, hat j hjl, hj]
      have each' : ∀ i, ∃ t : It, i < m → t.Raw w ∧ ∀ (j : Nat) v, t.row[j]? = some v → w.cell? (a.add (i * 5 + j)) = some v := fun i => by
        by_cases him : i < m
        · obtain ⟨t, ht⟩ := each i him; exact ⟨t, fun _ => ht⟩
        · exact ⟨⟨0, 0, 0, none, 0, 0, none, 0, 0, [], []⟩, fun h => absurd h him⟩
      let f : Nat → It := fun i => Classical.choose (each' i)
      have hf : ∀ i, i < m → (f i).Raw w ∧ ∀ (j : Nat) v, (f i).row[j]? = some v → w.cell? (a.add (i * 5 + j)) = some v := fun i him => Classical.choose_spec (each' i) him
      obtain ⟨b, o, sp⟩ := a
      have hc0 := (hf 0 (by omega)).2 0 _ rfl
      have hsp : sp = none := by simpa [Addr.add] using World.cell?_spot hc0
      subst hsp
      have hmax : maxLen = 9223372036854775807 := rfl
      refine ⟨b, o, cap, (List.range len).map f, by simp [hcs], by simp; omega, World.block_lt_of_cell? w _ hc0, fun i t hit => ?_⟩
      rw [List.getElem?_map] at hit
      cases hr : (List.range len)[i]? with
      | none => rw [hr] at hit; cases hit
      | some i' =>
        rw [hr] at hit
        simp only [Option.map_some, Option.some.injEq] at hit
        have hil : i < len := by simpa using (List.getElem?_eq_some_iff.1 hr).1
        have hii : i' = i := by
          rw [List.getElem?_range hil] at hr
          exact (Option.some.inj hr).symm
        subst hii
        subst hit
        obtain ⟨h1, h2⟩ := hf i' (by omega)
        refine ⟨h1, fun j v hj => ?_⟩
        have := h2 j v hj
        rw [add_plain0] at this
        rw [← this]
        congr 2
        omega
end
end Go.Proofs.YtnamakmnlagpgaaGreatDoor
