import Derived.Test.YtnamakmnlagpgaaGreatDoorRef
import Derived.Deep.RegionHeld3
import Derived.Deep.RegionHeldLaw
set_option linter.unusedVariables false
set_option linter.unusedSimpArgs false
namespace Go.Proofs.YtnamakmnlagpgaaGreatDoor
open Go Go.RowKit

def rowV (k n x : Int) (V1 V2 : Value) : Value := .agg #[.int .i64 k, .int .i64 n, .int .i64 x, V1, V2]
variable (k n x : Int) (A1 A2 : Option Addr) (n1 c1 n2 c2 : Nat)

set_option maxRecDepth 100000 in
set_option maxHeartbeats 4000000 in
theorem make_walk (w : World) (hw : WordsAt w) {eb eo : Nat → Nat} (he : ErrsAt w eb eo) :
    Calls Tryz.prog 6 #[rowV k n x (.slice A1 n1 c1) (.slice A2 n2 c2)] w fun e w' => e = .returned (resV k n (errOf eb eo x) (.slice A1 n1 c1) (.slice A2 n2 c2)) ∧ Below w.heap.size w w' := by
  have hbox : Below w.heap.size w (w.alloc (.cells #[.int .i64 k, .int .i64 n, .int .i64 x, .slice A1 n1 c1, .slice A2 n2 c2] 28)) := (Below.refl _ _).alloc (Nat.le_refl _) _
  have HB := Lib.hid hbox
  obtain ⟨W0, hW0⟩ : ∃ W, W = ((w.alloc (.cells #[.int .i64 k, .int .i64 n, .int .i64 x, .slice A1 n1 c1, .slice A2 n2 c2] 28)).alloc (.cells #[.int .i64 0, .int .i64 0, .nilIface, .slice none 0 0, .slice none 0 0] 33)).drew := ⟨_, rfl⟩
  have hb0 : Below w.heap.size w W0 := by
    rw [hW0]
    exact (hbox.alloc hbox.size _).trans (below_drew _ _)
  have c14 := err_walk (he.kept hb0) (words_kept hw hb0) x
  have o0 : W0.heap[w.heap.size]? = some (.cells #[.int .i64 k, .int .i64 n, .int .i64 x, .slice A1 n1 c1, .slice A2 n2 c2] 28 (0, 0)) := by
    rw [hW0]
    show (World.alloc _ _).heap[w.heap.size]? = _
    exact kept_obj (heap_alloc_new w _) ((Below.refl _ _).alloc (Nat.le_refl _) _)
  have o1 : W0.heap[w.heap.size + 1]? = some (.cells #[.int .i64 0, .int .i64 0, .nilIface, .slice none 0 0, .slice none 0 0] 33 (0, 0)) := by
    rw [hW0]
    have h := heap_alloc_new (w.alloc (.cells #[.int .i64 k, .int .i64 n, .int .i64 x, .slice A1 n1 c1, .slice A2 n2 c2] 28)) (.cells #[.int .i64 0, .int .i64 0, .nilIface, .slice none 0 0, .slice none 0 0] 33)
    have e : (w.alloc (.cells #[.int .i64 k, .int .i64 n, .int .i64 x, .slice A1 n1 c1, .slice A2 n2 c2] 28)).heap.size = w.heap.size + 1 := by simp
    rw [e] at h
    exact h
  have HB0 := Lib.hid hb0
  have q0 := boxcell o0 0 _ rfl
  have q1 := boxcell o0 1 _ rfl
  have q2 := boxcell o0 2 _ rfl
  have q3 := boxcell o0 3 _ rfl
  have q4 := boxcell o0 4 _ rfl
  have z0 := boxcell o1 0 _ rfl
  have z1 := boxcell o1 1 _ rfl
  have z2 := boxcell o1 2 _ rfl
  have z3 := boxcell o1 3 _ rfl
  have z4 := boxcell o1 4 _ rfl
  have f0 := Lib.frozen_of_heap o1 0
  have f1 := Lib.frozen_of_heap o1 1
  have f2 := Lib.frozen_of_heap o1 2
  have f3 := Lib.frozen_of_heap o1 3
  have f4 := Lib.frozen_of_heap o1 4
  have O0 := Lib.hid o0
  have O1 := Lib.hid o1
  rw [hW0] at q0 q1 q2 q3 q4 z0 z1 z2 z3 z4 f0 f1 f2 f3 f4 c14 O0 O1 HB0
  clear hb0 hW0 hbox hw he o0 o1
  have hE : errOf eb eo x = .nilIface ∨ ∃ p, errOf eb eo x = .iface 792 p := by
    unfold errOf
    split
    · exact .inr ⟨_, rfl⟩
    · exact .inl rfl
  unfold rowV
  rcases hE with hE | ⟨p, hE⟩
  all_goals rw [hE] at c14 ⊢
  all_goals clear hE
  all_goals
   go_enter Tryz.func6, Tryz.ntmps6
   go_wp2_with fail
   go_region_held3 (fun w' => w'.cell? ⟨w.heap.size, 0, none⟩ = some (.int .i64 k) ∧ w'.cell? ⟨w.heap.size, 1, none⟩ = some (.int .i64 n) ∧ w'.cell? ⟨w.heap.size, 2, none⟩ = some (.int .i64 x) ∧ w'.cell? ⟨w.heap.size, 3, none⟩ = some (.slice A1 n1 c1) ∧ w'.cell? ⟨w.heap.size, 4, none⟩ = some (.slice A2 n2 c2))
     (first
      | go_keep
      | exact ⟨q0, q1, q2, q3, q4⟩
      | exact ⟨pq0, pq1, pq2, pq3, pq4⟩
      | (go_split_ands; refine ⟨?_, ?_, ?_, ?_, ?_⟩ <;> go_simp))
     (first
      | (go_at_call 14; refine c14.mono ?_; rintro e w1 ⟨rfl, hb1⟩; have pq0 := kept_cell q0 hb1; have pq1 := kept_cell q1 hb1; have pq2 := kept_cell q2 hb1; have pq3 := kept_cell q3 hb1; have pq4 := kept_cell q4 hb1; have pz0 := kept_cell z0 hb1; have pz1 := kept_cell z1 hb1; have pz2 := kept_cell z2 hb1; have pz3 := kept_cell z3 hb1; have pz4 := kept_cell z4 hb1; have u1 := kept_obj O1.out hb1; have pf0 := Lib.frozen_of_heap u1 0; have pf1 := Lib.frozen_of_heap u1 1; have pf2 := Lib.frozen_of_heap u1 2; have pf3 := Lib.frozen_of_heap u1 3; have pf4 := Lib.frozen_of_heap u1 4; have HU := Lib.hid u1; have HB1 := Lib.hid (HB0.out.trans (hb1.mono HB0.out.size)); clear u1 hb1))
  all_goals go_wp2
  all_goals exact bodyPost_ret (by simp [results, Tryz.results6, go_sem, pz0, pz1, pz2, pz3, pz4]; rfl) rfl ⟨rfl, ((((HB1.out.setCell (Nat.le_succ _) _).setCell (Nat.le_succ _) _).setCell (Nat.le_succ _) _).setCell (Nat.le_succ _) _).setCell (Nat.le_succ _) _⟩
end Go.Proofs.YtnamakmnlagpgaaGreatDoor

namespace Go.Proofs.YtnamakmnlagpgaaGreatDoor
open Go Go.RowKit

theorem push_all (l : List UInt8) : ∀ acc : ByteArray, (l.map fun b => ((b.toNat : Nat) : Int)).foldl (fun r n => r.push (UInt8.ofNat n.toNat)) acc = ⟨(acc.data.toList ++ l).toArray⟩ := by
  induction l with
  | nil => intro acc; simp
  | cons b l ih =>
    intro acc
    simp only [List.map_cons, List.foldl_cons]
    rw [ih]
    simp [ByteArray.push]
theorem conv_bs {W : World} {v : Value} {xs : List UInt8} (h : BytesS W v xs) : (convert 26 9 v).run Tryz.prog W = .ok (.string ⟨xs.toArray⟩) W := by
  have h0 : ∀ A c, (convert 26 9 (.slice A 0 c)).run Tryz.prog W = .ok (.string ⟨#[]⟩) W := fun A c => by
    rw [run_convert_bytes_string _ 26 9 5 _ _ _ Tryz.underlying26 Tryz.underlying5 Tryz.underlying9]
    cases A with
    | none => simp [Conv.bytesToString, Sem.run_pure]; rfl
    | some a =>
      rw [run_bytesToString _ _ 0 c [] (by simpa using run_loadCells_list (P := Tryz.prog) (w := W) a [] (fun j v hj => by simp at hj))]
      rfl
  rcases h with ⟨rfl, A, c, rfl⟩ | ⟨b, o, c, rfl, hlt, hc⟩
  · exact h0 A c
  · rw [run_convert_bytes_string _ 26 9 5 _ _ _ Tryz.underlying26 Tryz.underlying5 Tryz.underlying9]
    have e : (xs.map fun b => ((b.toNat : Nat) : Int)).length = xs.length := by simp
    have hl := run_loadCells_list (P := Tryz.prog) (w := W) ⟨b, o, none⟩ ((xs.map fun b => ((b.toNat : Nat) : Int)).map (Value.int .u8)) (fun j v hj => by
      rw [add_plain0]
      rw [List.getElem?_map, List.getElem?_map] at hj
      cases hx : xs[j]? with
      | none => rw [hx] at hj; cases hj
      | some x =>
        rw [hx] at hj
        simp only [Option.map_some, Option.some.injEq] at hj
        rw [← hj]; exact hc j x hx)
    rw [List.length_map, e] at hl
    rw [run_bytesToString _ _ _ c _ hl, push_all]
    rfl

/-- the number of an error that is one of the errors, or nil -/
theorem num_any {w : World} (hw : WordsAt w) {eb eo : Nat → Nat} (he : ErrsAt w eb eo) (x : Int) :
    Calls Tryz.prog 17 #[errOf eb eo x] w fun e w' => e = .returned (.int .i64 (badN x : Nat)) ∧ Below w.heap.size w w' := by
  unfold errOf badN
  by_cases hx : 1 ≤ x ∧ x ≤ 19
  · rw [if_pos hx, if_pos hx]
    have h := num_err he hw (x - 1).toNat (by omega)
    have e : ((x - 1).toNat + 1 : Nat) = x.toNat := by omega
    rw [e] at h
    exact h
  · rw [if_neg hx, if_neg hx]
    refine (num_nil w).mono fun e w' h => ?_
    obtain ⟨rfl, rfl⟩ := h
    exact ⟨rfl, Below.refl _ _⟩

variable (k n x : Int) (A1 A2 : Option Addr) (n1 c1 n2 c2 : Nat)
set_option maxRecDepth 100000 in
set_option maxHeartbeats 4000000 in
theorem of_walk (w : World) (hw : WordsAt w) {eb eo : Nat → Nat} (he : ErrsAt w eb eo) (b : List UInt8) (hb : BytesS w (.slice A1 n1 c1) b) :
    Calls Tryz.prog 8 #[resV k n (errOf eb eo x) (.slice A1 n1 c1) (.slice A2 n2 c2)] w fun e w' => e = .returned (refV k n (badN x : Nat) ⟨b.toArray⟩ (.slice A2 n2 c2)) ∧ Below w.heap.size w w' := by
  obtain ⟨E, hE0⟩ : ∃ E, E = errOf eb eo x := ⟨_, rfl⟩
  rw [← hE0]
  have hbox : Below w.heap.size w (w.alloc (.cells #[.int .i64 k, .int .i64 n, E, .slice A1 n1 c1, .slice A2 n2 c2] 33)) := (Below.refl _ _).alloc (Nat.le_refl _) _
  have HB := Lib.hid hbox
  obtain ⟨W0, hW0⟩ : ∃ W, W = ((w.alloc (.cells #[.int .i64 k, .int .i64 n, E, .slice A1 n1 c1, .slice A2 n2 c2] 33)).alloc (.cells #[.int .i64 0, .int .i64 0, .int .i64 0, .string ⟨#[]⟩, .slice none 0 0] 37)).drew := ⟨_, rfl⟩
  have hb0 : Below w.heap.size w W0 := by
    rw [hW0]
    exact (hbox.alloc hbox.size _).trans (below_drew _ _)
  have c17 := num_any (words_kept hw hb0) (he.kept hb0) x
  rw [← hE0] at c17
  have cv0 := conv_bs (hb.kept hb0)
  have HBY := Lib.hid (hb.kept hb0)
  have o0 : W0.heap[w.heap.size]? = some (.cells #[.int .i64 k, .int .i64 n, E, .slice A1 n1 c1, .slice A2 n2 c2] 33 (0, 0)) := by
    rw [hW0]
    show (World.alloc _ _).heap[w.heap.size]? = _
    exact kept_obj (heap_alloc_new w _) ((Below.refl _ _).alloc (Nat.le_refl _) _)
  have o1 : W0.heap[w.heap.size + 1]? = some (.cells #[.int .i64 0, .int .i64 0, .int .i64 0, .string ⟨#[]⟩, .slice none 0 0] 37 (0, 0)) := by
    rw [hW0]
    have h := heap_alloc_new (w.alloc (.cells #[.int .i64 k, .int .i64 n, E, .slice A1 n1 c1, .slice A2 n2 c2] 33)) (.cells #[.int .i64 0, .int .i64 0, .int .i64 0, .string ⟨#[]⟩, .slice none 0 0] 37)
    have e : (w.alloc (.cells #[.int .i64 k, .int .i64 n, E, .slice A1 n1 c1, .slice A2 n2 c2] 33)).heap.size = w.heap.size + 1 := by simp
    rw [e] at h
    exact h
  have HB0 := Lib.hid hb0
  have q0 := boxcell o0 0 _ rfl
  have q1 := boxcell o0 1 _ rfl
  have q2 := boxcell o0 2 _ rfl
  have q3 := boxcell o0 3 _ rfl
  have q4 := boxcell o0 4 _ rfl
  have z0 := boxcell o1 0 _ rfl
  have z1 := boxcell o1 1 _ rfl
  have z2 := boxcell o1 2 _ rfl
  have z3 := boxcell o1 3 _ rfl
  have z4 := boxcell o1 4 _ rfl
  have f0 := Lib.frozen_of_heap o1 0
  have f1 := Lib.frozen_of_heap o1 1
  have f2 := Lib.frozen_of_heap o1 2
  have f3 := Lib.frozen_of_heap o1 3
  have f4 := Lib.frozen_of_heap o1 4
  have O0 := Lib.hid o0
  have O1 := Lib.hid o1
  rw [hW0] at q0 q1 q2 q3 q4 z0 z1 z2 z3 z4 f0 f1 f2 f3 f4 c17 cv0 O0 O1 HB0 HBY
  have hE : E = .nilIface ∨ ∃ p, E = .iface 792 p := by
    rw [hE0]
    unfold errOf
    split
    · exact .inr ⟨_, rfl⟩
    · exact .inl rfl
  clear hb0 hW0 hbox hw he o0 o1 hE0 hb
  generalize badN x = N at *
  unfold resV
  rcases hE with rfl | ⟨p, rfl⟩
  · go_enter Tryz.func8, Tryz.ntmps8
    go_wp2_with fail
    go_region_held_law (fun w' => w'.cell? ⟨w.heap.size, 0, none⟩ = some (.int .i64 k) ∧ w'.cell? ⟨w.heap.size, 1, none⟩ = some (.int .i64 n) ∧ w'.cell? ⟨w.heap.size, 2, none⟩ = some (.nilIface) ∧ w'.cell? ⟨w.heap.size, 3, none⟩ = some (.slice A1 n1 c1) ∧ w'.cell? ⟨w.heap.size, 4, none⟩ = some (.slice A2 n2 c2))
      (first
       | go_keep
       | exact ⟨q0, q1, q2, q3, q4⟩
       | exact ⟨pq0, pq1, pq2, pq3, pq4⟩
       | (go_split_ands; refine ⟨?_, ?_, ?_, ?_, ?_⟩ <;> go_simp))
      (first
       | (go_at_call 17; refine c17.mono ?_; rintro e w1 ⟨rfl, hb1⟩; have pq0 := kept_cell q0 hb1; have pq1 := kept_cell q1 hb1; have pq2 := kept_cell q2 hb1; have pq3 := kept_cell q3 hb1; have pq4 := kept_cell q4 hb1; have pz0 := kept_cell z0 hb1; have pz1 := kept_cell z1 hb1; have pz2 := kept_cell z2 hb1; have pz3 := kept_cell z3 hb1; have pz4 := kept_cell z4 hb1; have cv1 := conv_bs (HBY.out.kept hb1); have u1 := kept_obj O1.out hb1; have pf0 := Lib.frozen_of_heap u1 0; have pf1 := Lib.frozen_of_heap u1 1; have pf2 := Lib.frozen_of_heap u1 2; have pf3 := Lib.frozen_of_heap u1 3; have pf4 := Lib.frozen_of_heap u1 4; have HB1 := Lib.hid (HB0.out.trans (hb1.mono HB0.out.size)); clear u1 hb1))
    all_goals go_wp2
    all_goals exact bodyPost_ret (by simp [results, Tryz.results8, go_sem, pz0, pz1, pz2, pz3, pz4]; rfl) rfl ⟨rfl, ((((HB1.out.setCell (Nat.le_succ _) _).setCell (Nat.le_succ _) _).setCell (Nat.le_succ _) _).setCell (Nat.le_succ _) _).setCell (Nat.le_succ _) _⟩
  · go_enter Tryz.func8, Tryz.ntmps8
    go_wp2_with fail
    go_region_held_law (fun w' => w'.cell? ⟨w.heap.size, 0, none⟩ = some (.int .i64 k) ∧ w'.cell? ⟨w.heap.size, 1, none⟩ = some (.int .i64 n) ∧ w'.cell? ⟨w.heap.size, 2, none⟩ = some (.iface 792 p) ∧ w'.cell? ⟨w.heap.size, 3, none⟩ = some (.slice A1 n1 c1) ∧ w'.cell? ⟨w.heap.size, 4, none⟩ = some (.slice A2 n2 c2))
      (first
       | go_keep
       | exact ⟨q0, q1, q2, q3, q4⟩
       | exact ⟨pq0, pq1, pq2, pq3, pq4⟩
       | (go_split_ands; refine ⟨?_, ?_, ?_, ?_, ?_⟩ <;> go_simp))
      (first
       | (go_at_call 17; refine c17.mono ?_; rintro e w1 ⟨rfl, hb1⟩; have pq0 := kept_cell q0 hb1; have pq1 := kept_cell q1 hb1; have pq2 := kept_cell q2 hb1; have pq3 := kept_cell q3 hb1; have pq4 := kept_cell q4 hb1; have pz0 := kept_cell z0 hb1; have pz1 := kept_cell z1 hb1; have pz2 := kept_cell z2 hb1; have pz3 := kept_cell z3 hb1; have pz4 := kept_cell z4 hb1; have cv1 := conv_bs (HBY.out.kept hb1); have u1 := kept_obj O1.out hb1; have pf0 := Lib.frozen_of_heap u1 0; have pf1 := Lib.frozen_of_heap u1 1; have pf2 := Lib.frozen_of_heap u1 2; have pf3 := Lib.frozen_of_heap u1 3; have pf4 := Lib.frozen_of_heap u1 4; have HB1 := Lib.hid (HB0.out.trans (hb1.mono HB0.out.size)); clear u1 hb1))
    all_goals go_wp2
    all_goals exact bodyPost_ret (by simp [results, Tryz.results8, go_sem, pz0, pz1, pz2, pz3, pz4]; rfl) rfl ⟨rfl, ((((HB1.out.setCell (Nat.le_succ _) _).setCell (Nat.le_succ _) _).setCell (Nat.le_succ _) _).setCell (Nat.le_succ _) _).setCell (Nat.le_succ _) _⟩
end Go.Proofs.YtnamakmnlagpgaaGreatDoor
