import Derived.Test.YtnjpoodfaendkaaGreatDoorW6
import Derived.Laws.IdiomStrings
set_option linter.unusedVariables false
set_option linter.unusedSimpArgs false
set_option linter.unusedVariables false
namespace Go.Proofs.YtnjpoodfaendkaaGreatDoor
open Go Go.RowKit

noncomputable def bcap0 (W : World) (s : ByteArray) : Nat := grownCap W s.size 0 5
noncomputable def bworld0 (W : World) (s : ByteArray) : World := W.drew.alloc (.cells (bytesRow s (bcap0 W s)) 5 ((bytesRow s (bcap0 W s)).size, (bytesRow s (bcap0 W s)).size + 1))
theorem conv_bytes0 (W : World) (s : ByteArray) : (convert 9 39 (.string s)).run Tryz.prog W = .ok (.slice (some ⟨W.heap.size, 0, none⟩) s.size (bcap0 W s)) (bworld0 W s) :=
  run_bytes_of_string W 9 39 5 s Tryz.underlying9 Tryz.underlying39 Tryz.underlying5
theorem bworld0_below (W : World) (s : ByteArray) : Below W.heap.size W (bworld0 W s) := by
  have h : Below W.heap.size W W.drew := ⟨rfl, rfl, rfl, Nat.le_refl _, fun _ _ => rfl⟩
  exact h.alloc (Nat.le_refl _) _
theorem bworld0_size (W : World) (s : ByteArray) : W.heap.size < (bworld0 W s).heap.size := by
  show W.heap.size < (W.heap.push _).size
  simp
theorem bworld0_bytes (W : World) (s : ByteArray) : bytesAt (bworld0 W s) W.heap.size 0 s.data.toList := fun j x hj => by
  have hlt : j < s.data.size := by
    have := (List.getElem?_eq_some_iff.1 hj).1
    simpa using this
  have hx : s.data[j] = x := by
    have := (List.getElem?_eq_some_iff.1 hj).2
    simpa using this
  rw [Nat.zero_add]
  show (W.drew.alloc (.cells _ _ _)).cell? ⟨W.drew.heap.size, j, none⟩ = _
  rw [World.cell?_alloc_mark, bytesRow_at s _ j hlt, hx]

theorem conv_ex (W : World) (s : ByteArray) : ∃ p : Nat × World, (convert 9 39 (.string s)).run Tryz.prog W = .ok (.slice (some ⟨W.heap.size, 0, none⟩) s.size p.1) p.2 ∧
    Below W.heap.size W p.2 ∧ W.heap.size < p.2.heap.size ∧ bytesAt p.2 W.heap.size 0 s.data.toList :=
  ⟨(bcap0 W s, bworld0 W s), conv_bytes0 W s, bworld0_below W s, bworld0_size W s, bworld0_bytes W s⟩
noncomputable def bcap (W : World) (s : ByteArray) : Nat := (Classical.choose (conv_ex W s)).1
noncomputable def bworld (W : World) (s : ByteArray) : World := (Classical.choose (conv_ex W s)).2
theorem conv_bytes (W : World) (s : ByteArray) : (convert 9 39 (.string s)).run Tryz.prog W = .ok (.slice (some ⟨W.heap.size, 0, none⟩) s.size (bcap W s)) (bworld W s) := (Classical.choose_spec (conv_ex W s)).1
theorem bworld_below (W : World) (s : ByteArray) : Below W.heap.size W (bworld W s) := (Classical.choose_spec (conv_ex W s)).2.1
theorem bworld_size (W : World) (s : ByteArray) : W.heap.size < (bworld W s).heap.size := (Classical.choose_spec (conv_ex W s)).2.2.1
theorem bworld_bytes (W : World) (s : ByteArray) : bytesAt (bworld W s) W.heap.size 0 s.data.toList := (Classical.choose_spec (conv_ex W s)).2.2.2

/-- the lines' bytes, each with its end -/
def catL : List ByteArray → List UInt8
  | [] => []
  | x :: l => (x.data.toList ++ [10]) ++ catL l
theorem catL_snoc (l : List ByteArray) (x : ByteArray) : catL (l ++ [x]) = catL l ++ (x.data.toList ++ [10]) := by
  induction l with
  | nil => simp [catL]
  | cons y l ih => simp only [List.cons_append, catL, ih, List.append_assoc]

set_option maxRecDepth 100000 in
set_option maxHeartbeats 4000000 in
theorem sum_walk (b o c n : Nat) (xs : List ByteArray) (w : World) (hn : xs.length = n) (hc : ∀ (j : Nat) x, xs[j]? = some x → w.cell? ⟨b, o + j, none⟩ = some (.string x)) (hm : n ≤ 1000000) (hsz : ∀ x ∈ xs, x.size ≤ 1000) (hbk : b < w.heap.size) :
    Calls Tryz.prog 10 #[.slice (some ⟨b, o, none⟩) n c] w fun e w' => e = .returned (.int .u32 (u (~~~(crcF ones (catL xs))))) ∧ Below w.heap.size w w' := by
  go_enter Tryz.func10, Tryz.ntmps10
  go_wp2
  go_loopw [3, 8] (fun x i wr => ∃ k : Nat, k ≤ n ∧ i = .int .i64 k ∧ x = .int .u32 (u (~~~(crcF ones (catL (xs.take k))))) ∧ Below w.heap.size w wr) (fun _ i _ => n - (intOf i).toNat)
  case atStart => exact ⟨0, Nat.zero_le _, rfl, by rw [List.take_zero]; rfl, Below.refl _ _⟩
  case round =>
    obtain ⟨k, hk, rfl, rfl, hb⟩ := hrel
    by_cases hlt : k < n
    · have hl : k < xs.length := by omega
      have hcell : wr.cell? ⟨b, o + k, none⟩ = some (.string xs[k]) := by
        rw [← hc k xs[k] (List.getElem?_eq_getElem hl)]
        simp only [World.cell?, hb.block b hbk]
      have hs := hsz xs[k] (List.getElem_mem hl)
      have hnext : catL (xs.take (k + 1)) = catL (xs.take k) ++ (xs[k].data.toList ++ [10]) := by
        rw [List.take_add_one, List.getElem?_eq_getElem hl]
        exact catL_snoc _ _
      generalize hL : catL (xs.take k) = L at *
      generalize hx : xs[k] = x at *
      have HN : Hid (catL (xs.take (k + 1)) = L ++ (x.data.toList ++ [10])) := hnext
      clear hc hsz hnext hL hx
      have cb := conv_bytes
      have HB : Hid (Below w.heap.size w wr) := hb
      clear hb
      have hy : (x ++ (⟨#[10]⟩ : ByteArray)).size = x.size + 1 := by simp only [ByteArray.size_append]; rfl
      have hyl : (x ++ (⟨#[10]⟩ : ByteArray)).data.toList = x.data.toList ++ [10] := by simp [ByteArray.data_append]
      go_wp2_with (first
        | (go_at_call 17; refine (more_walk (~~~(crcF ones L)) wr.heap.size 0 _ _ (x ++ (⟨#[10]⟩ : ByteArray)).data.toList _ (by simp) (bworld_bytes _ _) (by omega) (bworld_size _ _)).mono ?_; rintro e w1 ⟨rfl, hb1⟩))
      have HF : Below w.heap.size w w1 :=
        HB.out.trans (((bworld_below wr (x ++ (⟨#[10]⟩ : ByteArray))).mono HB.out.size).trans (hb1.mono (Nat.le_trans HB.out.size (Nat.le_of_lt (bworld_size _ _)))))
      clear hb1
      go_roundw
      case rel => exact ⟨k + 1, by omega, by go_num, by rw [HN.out]; simp only [crcF_append], HF⟩
      case measure => simp [intOf]; omega
    · have : k = n := by omega
      subst this
      rw [← hn, List.take_length]
      go_wp2
      go_ret
      exact ⟨rfl, hb⟩
end Go.Proofs.YtnjpoodfaendkaaGreatDoor
