import Derived.Test.YtnamakmnlagpgaaGreatDoorFared
import Derived.Test.YtnamakmnlagpgaaGreatDoorSmall
set_option linter.unusedVariables false
set_option linter.unusedSimpArgs false
namespace Go.Proofs.YtnamakmnlagpgaaGreatDoor
open Go Go.RowKit

/-! ### report.Result -/
def conflictB : List UInt8 := [99, 111, 110, 102, 108, 105, 99, 116]
def errorB : List UInt8 := [101, 114, 114, 111, 114, 32]
/-- the line of a result; bad: its error's number, or 0 -/
def tailT (k n : Int) (bad : Nat) (b : List UInt8) (ls : List ByteArray) : List UInt8 :=
  if bad = 0 then faredT k n b ls else if bad = 19 then conflictB ++ Lib.joinTail [32] (ls.map (·.data.toList)) else errorB ++ Lib.itoa bad
def resT (k n : Int) (bad : Nat) (b : List UInt8) (ls : List ByteArray) : List UInt8 := (headOf k ++ [32]) ++ tailT k n bad b ls

theorem fared_any (k n : Int) (E V1 V2 : Value) (w : World) (b : List UInt8) (hb : BytesS w V1 b) (hm : b.length ≤ 100) (ls : List ByteArray) (hv : TextsS w V2 ls) (hN : ls.length ≤ 20) (hz : ∀ x ∈ ls, x.size ≤ 100) (h0 : -9223372036854775808 ≤ n) (h1 : n ≤ 9223372036854775807) (ht : Tab w) :
    Calls Tryz.prog 20 #[resV k n E V1 V2] w fun e w' => e = .returned (bs (faredT k n b ls)) ∧ Below w.heap.size w w' := by
  unfold faredT
  by_cases hk : k = 1 ∨ k = 4 ∨ k = 6
  · rw [if_pos hk]; exact fared_version k n E V1 V2 w hk h0 h1 ht
  · rw [if_neg hk]
    by_cases h3 : k = 3
    · subst h3; rw [if_pos rfl]; exact fared_bytes n E V1 V2 w b hb hm
    · rw [if_neg h3]
      by_cases h5 : k = 5
      · subst h5; rw [if_pos rfl]; exact fared_changes n E V1 V2 w ls hv hN hz ht
      · rw [if_neg h5]
        simp only [not_or] at hk
        exact fared_done k n E V1 V2 w hk.1 hk.2.1 hk.2.2 h3 h5

theorem wordOf_len (k : Int) : (wordOf k).length ≤ 20 := by
  unfold wordOf
  split
  · have : ∀ i : Nat, i < 12 → (wordsB.getD i []).length ≤ 20 := by decide
    exact this _ (by omega)
  · simp
theorem headOf_len (k : Int) : (headOf k).length ≤ 20 := by
  have := wordOf_len k
  unfold headOf toldOf
  split
  · simp
  · omega
theorem faredT_len (k n : Int) (b : List UInt8) (hm : b.length ≤ 100) (ls : List ByteArray) (hN : ls.length ≤ 20) (hz : ∀ x ∈ ls, x.size ≤ 100) (h0 : -9223372036854775808 ≤ n) (h1 : n ≤ 9223372036854775807) : (faredT k n b ls).length ≤ 922337203685480000 := by
  have i1 := itoa_len n h0 h1
  have i2 := itoa_short ls.length (by omega)
  have hjl : (Lib.joinTail [32, 124, 32] (ls.map (·.data.toList))).length ≤ 10000 := by
    have := joinTail_len [32, 124, 32] 100 (ls.map (·.data.toList)) (fun x hx => by
      obtain ⟨y, hy, rfl⟩ := List.mem_map.1 hx
      have h1 := hz y hy
      have h2 : y.data.toList.length = y.size := Array.length_toList
      show y.data.toList.length ≤ 100
      omega)
    rw [List.length_map] at this
    have h2 : ls.length * (([32, 124, 32] : List UInt8).length + 100) ≤ 20 * 103 := Nat.mul_le_mul hN (Nat.le_refl _)
    omega
  have hh : (hexOf b).length ≤ 1000 := by
    unfold hexOf
    split
    · simp
    · rw [hexL_len]; omega
  unfold faredT
  split
  · simp only [List.length_append, versionB, List.length_cons, List.length_nil]; omega
  · split
    · simp only [List.length_append, bytesB, List.length_cons, List.length_nil]; omega
    · split
      · simp only [List.length_append, changesB, List.length_cons, List.length_nil]; omega
      · simp [doneB]

theorem gcell {w : World} {g b o : Nat} (h : ErrAt1 w g b o) : w.cell? ⟨g, 0, none⟩ = some (errV b o) := by
  obtain ⟨⟨el, h1⟩, _⟩ := h
  simp [World.cell?, h1]
variable (k n : Int) (V1 V2 : Value)

set_option maxRecDepth 100000 in
set_option maxHeartbeats 4000000 in
theorem result_nil (w : World) (hw : WordsAt w) (b : List UInt8) (hb : BytesS w V1 b) (hm : b.length ≤ 100) (ls : List ByteArray) (hv : TextsS w V2 ls) (hN : ls.length ≤ 20) (hz : ∀ x ∈ ls, x.size ≤ 100) (hk0 : -9223372036854775808 ≤ k) (hk1 : k ≤ 9223372036854775807) (h0 : -9223372036854775808 ≤ n) (h1 : n ≤ 9223372036854775807) (ht : Tab w) :
    Calls Tryz.prog 9 #[resV k n .nilIface V1 V2] w fun e w' => e = .returned (bs (resT k n 0 b ls)) ∧ Below w.heap.size w w' := by
  have hbox : Below w.heap.size w (w.alloc (.cells #[.int .i64 k, .int .i64 n, .nilIface, V1, V2] 33)) := (Below.refl _ _).alloc (Nat.le_refl _) _
  have c19 := word_walk (words_kept hw hbox) k hk0 hk1
  have c18 := told_walk (wordOf k) (w.alloc (.cells #[.int .i64 k, .int .i64 n, .nilIface, V1, V2] 33))
  have c20 := fared_any k n .nilIface V1 V2 _ b (hb.kept hbox) hm ls (hv.kept hbox) hN hz h0 h1 (tab_kept ht hbox)
  have l1 := headOf_len k
  have l2 := faredT_len k n b hm ls hN hz h0 h1
  have HB := Lib.hid hbox
  have e1 : resT k n 0 b ls = (headOf k ++ [32]) ++ faredT k n b ls := rfl
  rw [e1]
  clear e1 hbox hw hb hv ht hz hm hN
  unfold headOf at *
  generalize faredT k n b ls = F at *
  generalize toldOf (wordOf k) = H at *
  generalize wordOf k = W at *
  unfold resV at *
  unfold bs at *
  go_enter Tryz.func9, Tryz.ntmps9
  go_wp2_with (first
    | (go_at_call 19; refine c19.mono ?_; rintro e w' ⟨rfl, rfl⟩)
    | (go_at_call 18; refine c18.mono ?_; rintro e w' ⟨rfl, rfl⟩)
    | (go_at_call 20; refine c20.mono ?_; rintro e w1 ⟨rfl, hb1⟩; have HB1 := Lib.hid hb1; clear hb1))
  go_ret
  exact ⟨by simp [ByteArray.ext_iff], HB.out.trans (HB1.out.mono HB.out.size)⟩

set_option maxRecDepth 100000 in
set_option maxHeartbeats 4000000 in
theorem result_err (w : World) (hw : WordsAt w) {eb eo : Nat → Nat} (he : ErrsAt w eb eo) (i : Nat) (hi : i < 18) (hk0 : -9223372036854775808 ≤ k) (hk1 : k ≤ 9223372036854775807) (ht : Tab w) :
    Calls Tryz.prog 9 #[resV k n (errV (eb i) (eo i)) V1 V2] w fun e w' => e = .returned (bs ((headOf k ++ [32]) ++ (errorB ++ Lib.itoa (i + 1 : Nat)))) ∧ Below w.heap.size w w' := by
  have hx : ∃ x, errV (eb i) (eo i) = .iface 792 x := ⟨_, rfl⟩
  have hx18 : ∃ y, errV (eb 18) (eo 18) = .iface 792 y := ⟨_, rfl⟩
  have hbox : Below w.heap.size w (w.alloc (.cells #[.int .i64 k, .int .i64 n, errV (eb i) (eo i), V1, V2] 33)) := (Below.refl _ _).alloc (Nat.le_refl _) _
  have c19 := word_walk (words_kept hw hbox) k hk0 hk1
  have c18 := told_walk (wordOf k) (w.alloc (.cells #[.int .i64 k, .int .i64 n, errV (eb i) (eo i), V1, V2] 33))
  have c21 := is_any (he.kept hbox) i 18 (by omega) (by decide)
  have hb18 : Nat.beq i 18 = false := AX.nbeq (by omega)
  rw [hb18] at c21
  have c24 := number_walk (he.kept hbox) (words_kept hw hbox) i (by omega)
  have c23 : ∀ W, Below w.heap.size w W → Calls Tryz.prog 23 #[.int .i64 (i + 1 : Nat)] W fun e w' => e = .returned (bs (Lib.itoa (i + 1 : Nat))) ∧ Below W.heap.size W w' := fun W hW => itoa_walk _ (by omega) (by omega) W (tab_kept ht hW)
  have hg : (w.alloc (.cells #[.int .i64 k, .int .i64 n, errV (eb i) (eo i), V1, V2] 33)).cell? ⟨0, 0, none⟩ = some (errV (eb 18) (eo 18)) := gcell ((he.kept hbox).at1 18 (by decide))
  have l1 := headOf_len k
  have l2 := itoa_short (i + 1) (by omega)
  have HB := Lib.hid hbox
  have C23 := Lib.hid c23
  clear hbox hw ht he hb18 c23
  obtain ⟨x, hx⟩ := hx
  obtain ⟨y, hy⟩ := hx18
  simp only [hx] at c19 c18 c21 c24 hg HB ⊢
  simp only [hy] at c21 hg
  clear hx hy
  have hnil := run_eql_held_nil (P := Tryz.prog) (w.alloc (.cells #[.int .i64 k, .int .i64 n, .iface 792 x, V1, V2] 33)) 31 792 x Tryz.underlying31
  have hs1 : 0 + 1 ≤ i + 1 := by omega
  generalize i + 1 = j at *
  unfold headOf at *
  generalize toldOf (wordOf k) = H at *
  generalize wordOf k = W at *
  obtain ⟨T, hT⟩ : ∃ T, T = Lib.itoa (j : Nat) := ⟨_, rfl⟩
  rw [← hT] at C23 l2 ⊢
  clear hT
  unfold resV at *
  unfold bs at *
  go_enter Tryz.func9, Tryz.ntmps9
  go_wp2_with (first
    | (go_at_call 19; refine c19.mono ?_; rintro e w' ⟨rfl, rfl⟩)
    | (go_at_call 18; refine c18.mono ?_; rintro e w' ⟨rfl, rfl⟩)
    | (go_at_call 21; refine c21.mono ?_; rintro e w' ⟨rfl, rfl⟩)
    | (go_at_call 24; refine c24.mono ?_; rintro e w1 ⟨rfl, hb1⟩; have HB1 := Lib.hid (HB.out.trans (hb1.mono HB.out.size)); clear hb1)
    | (go_at_call 23; refine (C23.out w1 HB1.out).mono ?_; rintro e w2 ⟨rfl, hb2⟩; have HB2 := Lib.hid (HB1.out.trans (hb2.mono HB1.out.size)); clear hb2))
  go_ret
  exact ⟨by simp [ByteArray.ext_iff, errorB], HB2.out⟩

set_option maxRecDepth 100000 in
set_option maxHeartbeats 4000000 in
theorem result_conf (w : World) (hw : WordsAt w) {eb eo : Nat → Nat} (he : ErrsAt w eb eo) (hk0 : -9223372036854775808 ≤ k) (hk1 : k ≤ 9223372036854775807) (ls : List ByteArray) (hv : TextsS w V2 ls) (hN : ls.length ≤ 20) (hz : ∀ x ∈ ls, x.size ≤ 100) :
    Calls Tryz.prog 9 #[resV k n (errV (eb 18) (eo 18)) V1 V2] w fun e w' => e = .returned (bs ((headOf k ++ [32]) ++ (conflictB ++ Lib.joinTail [32] (ls.map (·.data.toList))))) ∧ Below w.heap.size w w' := by
  obtain ⟨A, c, rfl⟩ := texts_len hv
  have hx18 : ∃ y, errV (eb 18) (eo 18) = .iface 792 y := ⟨_, rfl⟩
  have hbox : Below w.heap.size w (w.alloc (.cells #[.int .i64 k, .int .i64 n, errV (eb 18) (eo 18), V1, .slice A ls.length c] 33)) := (Below.refl _ _).alloc (Nat.le_refl _) _
  have c19 := word_walk (words_kept hw hbox) k hk0 hk1
  have c18 := told_walk (wordOf k) (w.alloc (.cells #[.int .i64 k, .int .i64 n, errV (eb 18) (eo 18), V1, .slice A ls.length c] 33))
  have c21 := is_any (he.kept hbox) 18 18 (by decide) (by decide)
  have hb18 : Nat.beq 18 18 = true := rfl
  rw [hb18] at c21
  have hg : (w.alloc (.cells #[.int .i64 k, .int .i64 n, errV (eb 18) (eo 18), V1, .slice A ls.length c] 33)).cell? ⟨0, 0, none⟩ = some (errV (eb 18) (eo 18)) := gcell ((he.kept hbox).at1 18 (by decide))
  have l1 := headOf_len k
  have hjl : (Lib.joinTail [32] (ls.map (·.data.toList))).length ≤ 10000 := by
    have := joinTail_len [32] 100 (ls.map (·.data.toList)) (fun x hx => by
      obtain ⟨y, hy, rfl⟩ := List.mem_map.1 hx
      have h1 := hz y hy
      have h2 : y.data.toList.length = y.size := Array.length_toList
      show y.data.toList.length ≤ 100
      omega)
    rw [List.length_map] at this
    have h2 : ls.length * (([32] : List UInt8).length + 100) ≤ 20 * 101 := Nat.mul_le_mul hN (Nat.le_refl _)
    omega
  have HV := Lib.hid (hv.kept hbox)
  have HB := Lib.hid hbox
  clear hbox hw he hb18 hz hv
  obtain ⟨y, hy⟩ := hx18
  simp only [hy] at c19 c18 c21 hg HB HV ⊢
  clear hy
  have hnil := run_eql_held_nil (P := Tryz.prog) (w.alloc (.cells #[.int .i64 k, .int .i64 n, .iface 792 y, V1, .slice A ls.length c] 33)) 31 792 y Tryz.underlying31
  unfold headOf at *
  generalize toldOf (wordOf k) = H at *
  generalize wordOf k = W at *
  generalize hT : ls.length = N at *
  have cj : ∀ (w2 : World) g cap, w2.ownsRow w.heap.size 9 1 (.slice (some ⟨g, 0, none⟩) (1 + N) cap) (1 + N) ([Value.string ⟨conflictB.toArray⟩] ++ ls.map Value.string) →
      Calls Tryz.prog 22 #[.slice (some ⟨g, 0, none⟩) (1 + N) cap, .string ⟨#[32]⟩] w2 fun e w' => e = .returned (bs (conflictB ++ Lib.joinTail [32] (ls.map (·.data.toList)))) ∧ Below w2.heap.size w2 w' := fun w2 g cap hown2 => by
    have h := join_walk (ys := (⟨conflictB.toArray⟩) :: ls) hown2 (by rw [List.length_cons, hT]; omega) ⟨#[32]⟩ (by
      rw [List.map_cons, Lib.join_cons, List.length_append]
      simp only [conflictB, List.length_cons, List.length_nil]
      omega) (by omega)
    rw [List.map_cons, Lib.join_cons] at h
    exact h
  generalize Lib.joinTail [32] (ls.map (·.data.toList)) = F at *
  have CJ := Lib.hid cj
  clear cj
  unfold resV at *
  unfold bs at *
  have own0 : ((w.alloc (.cells #[.int .i64 k, .int .i64 n, .iface 792 y, V1, .slice A N c] 33)).alloc (.cells #[.string ⟨conflictB.toArray⟩] 9)).ownsRow w.heap.size 9 1 (.slice (some ⟨w.heap.size + 1, 0, none⟩) 1 1) 1 [Value.string ⟨conflictB.toArray⟩] := by
    have h := World.ownsRow_lit (base := w.heap.size) (e := 9) (size := 1) (w.alloc (.cells #[.int .i64 k, .int .i64 n, .iface 792 y, V1, .slice A N c] 33)) #[Value.string ⟨conflictB.toArray⟩] 1 HB.out.size (by decide) (by rfl)
    have e : (w.alloc (.cells #[.int .i64 k, .int .i64 n, .iface 792 y, V1, .slice A N c] 33)).heap.size = w.heap.size + 1 := by simp
    rw [e] at h
    exact h
  have HW := Lib.hid own0
  have hcl : conflictB.length ≤ 8 := by decide
  clear own0
  go_enter Tryz.func9, Tryz.ntmps9
  go_wp2_with (first
    | (go_at_call 19; refine c19.mono ?_; rintro e w' ⟨rfl, rfl⟩)
    | (go_at_call 18; refine c18.mono ?_; rintro e w' ⟨rfl, rfl⟩)
    | (go_at_call 21; refine c21.mono ?_; rintro e w' ⟨rfl, rfl⟩)
    | (at_builtin; refine wpList_append_texts rfl (.tmp 23) (.tmp 25) rfl w.heap.size _ 1 [Value.string ⟨conflictB.toArray⟩] (by rfl) HW.out (.slice A N c) ls (by rfl) (HV.out.kept ((Below.refl _ _).alloc (Nat.le_refl _) _)) (by decide) (by omega) (by have := HB.out.size; simp; omega) ?_; intro g cap w2 hown2 hg2 hb2 hlt2; rw [hT] at hown2 ⊢; have HO := Lib.hid hown2; have HG := Lib.hid hg2; clear hown2 hg2)
    | (go_at_call 22; refine (CJ.out w2 g cap HO.out).mono ?_; rintro e w3 ⟨rfl, hb3⟩; have HB3 := Lib.hid hb3; clear hb3))
  go_ret
  refine ⟨by simp [ByteArray.ext_iff], ?_⟩
  have a1 : Below w.heap.size w w2 := (HB.out.alloc HB.out.size _).grown HG.out (by have := HB.out.size; simp; omega) (fun k hk => by
    simp only [Value.ownBlock, Option.some.injEq] at hk
    omega)
  exact a1.trans (HB3.out.mono a1.size)

/-- the number of an error that a row has; 0: none -/
def badN (x : Int) : Nat := if 1 ≤ x ∧ x ≤ 19 then x.toNat else 0

theorem result_any (w : World) (hw : WordsAt w) {eb eo : Nat → Nat} (he : ErrsAt w eb eo) (x : Int) (b : List UInt8) (hb : BytesS w V1 b) (hm : b.length ≤ 100) (ls : List ByteArray) (hv : TextsS w V2 ls) (hN : ls.length ≤ 20) (hz : ∀ x ∈ ls, x.size ≤ 100) (hk0 : -9223372036854775808 ≤ k) (hk1 : k ≤ 9223372036854775807) (h0 : -9223372036854775808 ≤ n) (h1 : n ≤ 9223372036854775807) (ht : Tab w) :
    Calls Tryz.prog 9 #[resV k n (errOf eb eo x) V1 V2] w fun e w' => e = .returned (bs (resT k n (badN x) b ls)) ∧ Below w.heap.size w w' := by
  unfold errOf badN resT tailT
  by_cases hx : 1 ≤ x ∧ x ≤ 19
  · rw [if_pos hx, if_pos hx, if_neg (by omega)]
    by_cases h19 : x = 19
    · subst h19
      rw [if_pos (by decide)]
      exact result_conf k n V1 V2 w hw he hk0 hk1 ls hv hN hz
    · rw [if_neg (by omega)]
      have h := result_err k n V1 V2 w hw he (x - 1).toNat (by omega) hk0 hk1 ht
      have e : ((x - 1).toNat + 1 : Nat) = x.toNat := by omega
      rw [e] at h
      exact h
  · rw [if_neg hx, if_neg hx, if_pos rfl]
    exact result_nil k n V1 V2 w hw b hb hm ls hv hN hz hk0 hk1 h0 h1 ht
end Go.Proofs.YtnamakmnlagpgaaGreatDoor
