import Derived.Test.YtnjpoodfaendkaaGreatDoorW3
import Derived.Test.YtnjpoodfaendkaaGreatDoorRun8
set_option linter.unusedVariables false
set_option linter.unusedSimpArgs false
set_option linter.unusedVariables false
namespace Go.Proofs.YtnjpoodfaendkaaGreatDoor
open Go Go.RowKit Go.Sort

abbrev Tab (w : World) : Prop := Lib.TabIs Tryz.prog w "internal/strconv.uint64pow10" .u64 Lib.pow10Tab

theorem tab_kept {w w' : World} (h : Tab w) (hb : Below w.heap.size w w') : Tab w' := by
  unfold Tab Lib.TabIs World.var? at *
  cases hg : Tryz.prog.globalNamed "internal/strconv.uint64pow10" with
  | none => rw [hg] at h; cases h
  | some g =>
    rw [hg] at h
    simp only [Option.bind_some] at h ⊢
    cases hc : w.heap[g]? with
    | none => rw [hc] at h; cases h
    | some o =>
      have hlt : g < w.heap.size := (Array.getElem?_eq_some_iff.1 hc).1
      rw [hb.block g hlt, hc]
      rw [hc] at h
      exact h

theorem below_grow (w : World) (k : Nat) (os : Array Obj) : Below w.heap.size w (grow (w.drewN k) os) :=
  ⟨rfl, rfl, rfl, by simp [grow, World.drewN], fun i hi => by
    show (w.heap ++ os)[i]? = w.heap[i]?
    rw [Array.getElem?_append_left hi]⟩

theorem below_ad (w : World) (o : Obj) (j : Nat) : Below w.heap.size w ((w.alloc o).drewN j) :=
  ⟨rfl, rfl, rfl, by simp, fun i hi => by simpa using Below.heap_alloc w o i hi⟩
theorem below_line (w : World) (o : Obj) (j : Nat) (os : Array Obj) : Below w.heap.size w (grow ((w.alloc o).drewN j) os) :=
  (below_ad w o j).trans ((below_grow ((w.alloc o).drewN j) 0 os).mono (by simp))

theorem lineT_eq (x : ByteArray) (n : Int) : x ++ ⟨#[32]⟩ ++ figT n = lineT x n := by
  apply ByteArray.ext
  apply Array.ext'
  simp [lineT, figT, ByteArray.data_append]

set_option maxRecDepth 100000 in
set_option maxHeartbeats 4000000 in
theorem line_walk (x : ByteArray) (n : Int) (w : World) (hx : x.size ≤ 1000) (h0 : -9223372036854775808 ≤ n) (h1 : n ≤ 9223372036854775807) (ht : Tab w) :
    Calls Tryz.prog 14 #[.agg #[.string x, .int .i64 n]] w fun e w' => e = .returned (.string (lineT x n)) ∧ Below w.heap.size w w' := by
  have t1 : ∀ X : World, Below w.heap.size w X → Tab X := fun X h => tab_kept ht h
  have hlen : (Lib.itoa n).length ≤ 9223372036854770000 := by
    have := dec_len n.natAbs
    have := dec_len n.toNat
    unfold Lib.itoa
    split
    · simp only [List.length_cons]; omega
    · omega
  have hs1 : x.size + 1 ≤ 9223372036854775807 := by omega
  have hs2 : x.size + 1 + (Lib.itoa n).length ≤ 9223372036854775807 := by omega
  have gc : ∀ (j : Nat) (os : Array Obj), (grow ((w.alloc (.cells #[.string x, .int .i64 n] 53)).drewN j) os).cell? ⟨w.heap.size, 0, none⟩ = some (.string x) := fun j os => by
    rw [cell?_grow _ _ _ (by simp)]
    go_simp
  have gc' : ∀ (j : Nat) (os : Array Obj), (grow ((w.alloc (.cells #[.string x, .int .i64 n] 53)).drewN j) os).cell? ⟨w.heap.size, 0 + 0, none⟩ = some (.string x) := gc
  go_enter Tryz.func14, Tryz.ntmps14
  go_wp2
  go_region_with (first
    | (go_at_call 25; refine (Tryz.strconv_Itoa n h0 h1 _ ?_).mono ?_; (first | exact t1 _ (below_ad w _ 1) | exact t1 _ (below_ad w _ _)); rintro e w' ⟨rfl, k, os, rfl⟩))
  all_goals (try go_wp2)
  all_goals go_ret
  all_goals (refine ⟨?_, below_line _ _ _ _⟩)
  all_goals exact congrArg (fun b => Ending.returned (Value.string b)) (lineT_eq x n)
end Go.Proofs.YtnjpoodfaendkaaGreatDoor
