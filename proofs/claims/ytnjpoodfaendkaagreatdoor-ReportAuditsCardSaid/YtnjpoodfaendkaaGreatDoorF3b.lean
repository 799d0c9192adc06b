import Derived.Test.YtnjpoodfaendkaaGreatDoorF3a
set_option linter.unusedVariables false
set_option linter.unusedSimpArgs false
set_option linter.unusedVariables false
namespace Go.Proofs.YtnjpoodfaendkaaGreatDoor
open Go Go.RowKit Go.AX

/-- the report's cells, where its box lies -/
def BoxAt (W : World) (b : Nat) (vs : Array Value) : Prop := ∀ (j : Nat) v, vs[j]? = some v → W.cell? ⟨b, j, none⟩ = some v
theorem boxAt_of {W : World} {b : Nat} {vs : Array Value} {T : TypeId} (h : W.heap[b]? = some (.cells vs T (0, 0))) : BoxAt W b vs := fun j v hj => by
  simp [World.cell?, h, hj]

theorem below_dn {B : Nat} {w w' : World} (h : Below B w w') (m : Nat) : Below B w (w'.drewN m) := ⟨h.os, h.tape, h.output, h.size, h.block⟩
theorem below_bw {w w' : World} (h : Below w.heap.size w w') (s : ByteArray) : Below w.heap.size w (bworld w' s) := h.trans ((bworld_below w' s).mono h.size)
theorem bytes_kept {w w' : World} {b o : Nat} {bs : List UInt8} (h : bytesAt w b o bs) (hlt : b < w.heap.size) (hb : Below w.heap.size w w') : bytesAt w' b o bs := fun j x hj => by
  rw [← h j x hj]
  simp only [World.cell?, hb.block b hlt]

theorem finA {w w2 W W' : World} (h : Below w.heap.size w w2) (h1 : Below w2.heap.size w2 W) (h2 : Below W.heap.size W W') (s : ByteArray) : Below w.heap.size w (bworld W' s) :=
  below_bw ((h.trans (h1.mono h.size)).trans (h2.mono (Nat.le_trans h.size h1.size))) s
theorem finB {w w2 W W' : World} {s : ByteArray} (h : Below w.heap.size w w2) (h1 : Below w2.heap.size w2 W) (h2 : Below (bworld W s).heap.size (bworld W s) W') : Below w.heap.size w W' :=
  (below_bw (h.trans (h1.mono h.size)) s).trans (h2.mono (below_bw (h.trans (h1.mono h.size)) s).size)

set_option maxRecDepth 100000 in
set_option maxHeartbeats 8000000 in
theorem report_walk (g0 g1 a2 a3 a4 a5 a6 a7 a8 a9 a10 a11 a12 a13 a14 : Int) (hf : fits a2 ∧ fits a3 ∧ fits a5 ∧ fits a6 ∧ fits a7 ∧ fits a8 ∧ fits a9 ∧ fits a10 ∧ fits a11 ∧ fits a12 ∧ fits a13 ∧ fits a14)
    (A : Option Addr) (c n : Nat) (xs : List ByteArray) (w : World) (hS : SliceAt w A n xs) (hm : n ≤ 9223372036854775807) (hsz : ∀ x ∈ xs, x.size ≤ 9223372036854775807) (hw : WordsAt w) (ht : Tab20 w) :
    Calls Tryz.prog 3 #[repV g0 g1 a2 a3 a4 a5 a6 a7 a8 a9 a10 a11 a12 a13 a14, .slice A n c] w fun e w' => e = .returned (.bool true) ∧ Below w.heap.size w w' := by
  have hbox : Below w.heap.size w (w.alloc (.cells #[.int .u32 g0, .int .u32 g1, .int .i64 a2, .int .i64 a3, .int .i64 a4, .int .i64 a5, .int .i64 a6, .int .i64 a7, .int .i64 a8, .int .i64 a9, .int .i64 a10, .int .i64 a11, .int .i64 a12, .int .i64 a13, .int .i64 a14] 26)) := (Below.refl _ _).alloc (Nat.le_refl _) _
  unfold repV
  go_enter Tryz.func3, Tryz.ntmps3
  go_wp2_with (first
    | (go_at_call 4; refine (alive_walk _ (words_kept hw hbox)).mono ?_; rintro e w1 ⟨rfl, hb1⟩; have hbw1 : Below w.heap.size w w1 := hbox.trans (hb1.mono hbox.size))
    | (go_at_call 5; refine (long_any (hS.kept hbw1) c hm hsz).mono ?_; rintro e w2 ⟨rfl, rfl⟩))
  · go_ret
    exact ⟨rfl, hbw1⟩
  · have hL : longB xs = false := by assumption
    have hn : xs.length = n := hS.1
    have h40 : n ≤ 40 := by
      unfold longB at hL
      simp only [Bool.or_eq_false_iff, decide_eq_false_iff_not] at hL
      omega
    have h200 : ∀ x ∈ xs, x.size ≤ 200 := fun x hx => by
      unfold longB at hL
      simp only [Bool.or_eq_false_iff, decide_eq_false_iff_not] at hL
      have := List.any_eq_false.1 hL.2 x hx
      simp at this
      omega
    have hS1 := hS.kept hbw1
    have HC : Hid (w2.heap[w.heap.size]? = some (.cells #[.int .u32 g0, .int .u32 g1, .int .i64 a2, .int .i64 a3, .int .i64 a4, .int .i64 a5, .int .i64 a6, .int .i64 a7, .int .i64 a8, .int .i64 a9, .int .i64 a10, .int .i64 a11, .int .i64 a12, .int .i64 a13, .int .i64 a14] 26 (0, 0))) := by
      refine kept_obj ?_ hb1
      show (w.heap.push _)[w.heap.size]? = _
      simp
    have HB : Hid (Below w.heap.size w w2) := hbw1
    have HS : Hid (SliceAt w2 A n xs) := hS1
    clear hb1 hbw1 hbox hL hS1
    go_loop [5, 14] (fun s i => ∃ k : Nat, k ≤ n ∧ i = .int .i64 k ∧ s = .string ⟨(catL (xs.take k)).toArray⟩) (fun _ i => n - (intOf i).toNat)
    case atStart => exact ⟨0, Nat.zero_le _, rfl, rfl⟩
    case round =>
      obtain ⟨k, hk, rfl, rfl⟩ := hrel
      by_cases hlt : k < n
      · have hl : k < xs.length := by omega
        obtain ⟨_, h0 | ⟨b, o, rfl, hT⟩⟩ := HS.out
        · omega
        have hcell := hT.2 k xs[k] (List.getElem?_eq_getElem hl)
        have hx200 := h200 xs[k] (List.getElem_mem hl)
        have hnext : catL (xs.take (k + 1)) = catL (xs.take k) ++ (xs[k].data.toList ++ [10]) := by
          rw [List.take_add_one, List.getElem?_eq_getElem hl]
          exact catL_snoc _ _
        have hlen : (catL (xs.take k)).length ≤ 8040 := by
          have h1 := catL_len (xs.take k) fun x hx => h200 x (List.mem_of_mem_take hx)
          rw [List.length_take] at h1
          omega
        generalize hLk : catL (xs.take k) = L at *
        generalize hxk : xs[k] = x at *
        have HN : Hid (catL (xs.take (k + 1)) = L ++ (x.data.toList ++ [10])) := hnext
        clear hnext hLk hxk h200 hS HS HC HB hT hw ht hsz
        go_wp2
        go_round
        case rel =>
          refine ⟨k + 1, by omega, by go_num, ?_⟩
          rw [HN.out]
          have e : (⟨L.toArray⟩ : ByteArray) ++ (x ++ ⟨#[10]⟩) = ⟨(L ++ (x.data.toList ++ [10])).toArray⟩ := by
            apply ByteArray.ext
            apply Array.ext'
            simp [ByteArray.data_append]
          first
            | rw [← e]
            | (rw [← e]; rfl)
        case measure => simp [intOf]; omega
      · have : k = n := by omega
        subst this
        have htk : xs.take xs.length = xs := List.take_length
        rw [← hn, htk]
        obtain ⟨T, hT⟩ : ∃ T, T = textsL (pairs g0 g1 a2 a3 a4 a5 a6 a7 a8 a9 a10 a11 a12 a13 a14) (if a5 == a7 then soundL else unsoundL) := ⟨_, rfl⟩
        have hTl : T.length ≤ 9223372036854775807 := by rw [hT]; simp [textsL, pairs]
        have c7 : ∀ W, Below w2.heap.size w2 W → Calls Tryz.prog 7 #[repV g0 g1 a2 a3 a4 a5 a6 a7 a8 a9 a10 a11 a12 a13 a14] W fun e w' => Handed W w' e T := fun W hb => by
          rw [hT]; exact audit_walk g0 g1 a2 a3 a4 a5 a6 a7 a8 a9 a10 a11 a12 a13 a14 hf W (tab20_kept (tab20_kept ht HB.out) hb)
        have c8 : ∀ W, Calls Tryz.prog 8 #[repV g0 g1 a2 a3 a4 a5 a6 a7 a8 a9 a10 a11 a12 a13 a14] W fun e w' => Handed W w' e T := fun W => by
          rw [hT]; exact ref_walk g0 g1 a2 a3 a4 a5 a6 a7 a8 a9 a10 a11 a12 a13 a14 hf W
        have c9 := of_walk g0 g1 a2 a3 a4 a5 a6 a7 a8 a9 a10 a11 a12 a13 a14
        have k0 := boxAt_of HC.out 0 _ rfl
        have k1 := boxAt_of HC.out 1 _ rfl
        have k2 := boxAt_of HC.out 2 _ rfl
        have k3 := boxAt_of HC.out 3 _ rfl
        have k4 := boxAt_of HC.out 4 _ rfl
        have k5 := boxAt_of HC.out 5 _ rfl
        have k6 := boxAt_of HC.out 6 _ rfl
        have k7 := boxAt_of HC.out 7 _ rfl
        have k8 := boxAt_of HC.out 8 _ rfl
        have k9 := boxAt_of HC.out 9 _ rfl
        have k10 := boxAt_of HC.out 10 _ rfl
        have k11 := boxAt_of HC.out 11 _ rfl
        have k12 := boxAt_of HC.out 12 _ rfl
        have k13 := boxAt_of HC.out 13 _ rfl
        have k14 := boxAt_of HC.out 14 _ rfl
        clear hT
        unfold repV at c7 c8 c9
        have hbd : Below w2.heap.size w2 w2.drew := ⟨rfl, rfl, rfl, Nat.le_refl _, fun _ _ => rfl⟩
        have cb := conv_bytes
        have h200' : ∀ x ∈ xs, x.size ≤ 1000 := fun x hx => by have := h200 x hx; omega
        have c10 : ∀ W, Below w2.heap.size w2 W → Calls Tryz.prog 10 #[.slice A k c] W fun e w' => e = .returned (.int .u32 (u (~~~(crcF ones (catL xs))))) ∧ Below W.heap.size W w' := fun W hb =>
          sum_any (HS.out.kept hb) c (by omega) h200'
        have hLl : (catL xs).length ≤ 1000000 := by have := catL_len xs h200; omega
        generalize catL xs = L at *
        have c11 : ∀ W b c', bytesAt W b 0 L → Calls Tryz.prog 11 #[.slice (some ⟨b, 0, none⟩) L.length c'] W fun e w' => e = .returned (.int .u32 (u (~~~(crcF ones L)))) ∧ w' = W := fun W b c' hb =>
          refsum_walk b 0 c' L.length L W rfl hb hLl
        have cby : ∀ W, bytesAt (bworld W ⟨L.toArray⟩) W.heap.size 0 L := fun W => bworld_bytes W ⟨L.toArray⟩
        have c11a : ∀ W c', Calls Tryz.prog 11 #[.slice (some ⟨W.heap.size, 0, none⟩) L.length c'] (bworld W ⟨L.toArray⟩) fun e w' => e = .returned (.int .u32 (u (~~~(crcF ones L)))) ∧ w' = bworld W ⟨L.toArray⟩ := fun W c' => c11 _ _ _ (cby W)
        have c11b : ∀ W W' c', Below (bworld W ⟨L.toArray⟩).heap.size (bworld W ⟨L.toArray⟩) W' → Calls Tryz.prog 11 #[.slice (some ⟨W.heap.size, 0, none⟩) L.length c'] W' fun e w' => e = .returned (.int .u32 (u (~~~(crcF ones L)))) ∧ w' = W' := fun W W' c' hb =>
          c11 _ _ _ (bytes_kept (cby W) (bworld_size _ _) hb)
        have c6 : ∀ W B o c1 B' o' c2, TextsAt W B o T → TextsAt W B' o' T → Calls Tryz.prog 6 #[.slice (some ⟨B, o, none⟩) T.length c1, .slice (some ⟨B', o', none⟩) T.length c2] W fun e w' => e = .returned (.bool true) ∧ ∃ m, w' = W.drewN m := fun W B o c1 B' o' c2 h1 h2 =>
          same_walk B o c1 B' o' c2 T.length T W rfl hTl h1.2 h2.2
        clear h200 h200' hw ht hf hsz hS htk
        go_wp2
        go_region_with (first
          | (go_at_call 7; refine (c7 _ hbd).mono ?_; rintro e w7 ⟨B7, o7, c7', rfl, hB7, hc7, hb7⟩; have q0 := boxAt_of (kept_obj (w := w2.drew) HC.out hb7) 0 _ rfl; have q1 := boxAt_of (kept_obj (w := w2.drew) HC.out hb7) 1 _ rfl; have q2 := boxAt_of (kept_obj (w := w2.drew) HC.out hb7) 2 _ rfl; have q3 := boxAt_of (kept_obj (w := w2.drew) HC.out hb7) 3 _ rfl; have q4 := boxAt_of (kept_obj (w := w2.drew) HC.out hb7) 4 _ rfl; have q5 := boxAt_of (kept_obj (w := w2.drew) HC.out hb7) 5 _ rfl; have q6 := boxAt_of (kept_obj (w := w2.drew) HC.out hb7) 6 _ rfl; have q7 := boxAt_of (kept_obj (w := w2.drew) HC.out hb7) 7 _ rfl; have q8 := boxAt_of (kept_obj (w := w2.drew) HC.out hb7) 8 _ rfl; have q9 := boxAt_of (kept_obj (w := w2.drew) HC.out hb7) 9 _ rfl; have q10 := boxAt_of (kept_obj (w := w2.drew) HC.out hb7) 10 _ rfl; have q11 := boxAt_of (kept_obj (w := w2.drew) HC.out hb7) 11 _ rfl; have q12 := boxAt_of (kept_obj (w := w2.drew) HC.out hb7) 12 _ rfl; have q13 := boxAt_of (kept_obj (w := w2.drew) HC.out hb7) 13 _ rfl; have q14 := boxAt_of (kept_obj (w := w2.drew) HC.out hb7) 14 _ rfl)
          | (go_at_call 9; refine (c9 _).mono ?_; rintro e w9 ⟨rfl, hb9⟩)
          | (go_at_call 8; refine (c8 _).mono ?_; rintro e w8 ⟨B8, o8, c8', rfl, hB8, hc8, hb8⟩; have hx8 : Below w2.heap.size w2 w8 := ((hbd.trans hb7).trans (hb9.mono (hbd.trans hb7).size)).trans (hb8.mono ((hbd.trans hb7).trans (hb9.mono (hbd.trans hb7).size)).size))
          | (go_at_call 6; refine (c6 _ _ _ _ _ _ _ (TextsAt.kept (TextsAt.kept (And.intro hB7 hc7) hb9) hb8) (And.intro hB8 hc8)).mono ?_; rintro e w6 ⟨rfl, m6, rfl⟩; have hx6 : Below w2.heap.size w2 (w8.drewN m6) := below_dn hx8 m6)
          | (go_at_call 10; refine (c10 _ ?_).mono ?_; (first | exact hx6 | exact below_bw hx6 _); rintro e w10 ⟨rfl, hb10⟩)
          | (go_at_call 11; refine (c11b (w8.drewN m6) _ _ hb10).mono ?_; rintro e w11 ⟨rfl, rfl⟩)
          | (go_at_call 11; refine (c11a _ _).mono ?_; rintro e w11 ⟨rfl, rfl⟩))
        all_goals (try go_wp2)
        all_goals go_ret
        all_goals first
          | exact ⟨rfl, finA HB.out hx6 hb10 _⟩
          | exact ⟨rfl, finB HB.out hx6 hb10⟩
          | exact ⟨by simp, finA HB.out hx6 hb10 _⟩
          | exact ⟨by simp, finB HB.out hx6 hb10⟩
end Go.Proofs.YtnjpoodfaendkaaGreatDoor
