import Derived.Test.YtnamakmnlagpgaaGreatDoorHex
set_option linter.unusedVariables false
set_option linter.unusedSimpArgs false
namespace Go.Proofs.YtnamakmnlagpgaaGreatDoor
open Go Go.RowKit

/-! ### report.fared -/
def versionB : List UInt8 := [118, 101, 114, 115, 105, 111, 110, 32]
def bytesB : List UInt8 := [98, 121, 116, 101, 115, 32]
def changesB : List UInt8 := [99, 104, 97, 110, 103, 101, 115, 32]
def doneB : List UInt8 := [100, 111, 110, 101]
def faredT (k n : Int) (b : List UInt8) (ls : List ByteArray) : List UInt8 :=
  if k = 1 ∨ k = 4 ∨ k = 6 then versionB ++ Lib.itoa n else if k = 3 then bytesB ++ hexOf b else if k = 5 then changesB ++ Lib.itoa ls.length ++ Lib.joinTail [32, 124, 32] (ls.map (·.data.toList)) else doneB

/-- a slice of bytes -/
def BytesS (w : World) (v : Value) (xs : List UInt8) : Prop :=
  (xs = [] ∧ ∃ A c, v = .slice A 0 c) ∨ ∃ b o c, v = .slice (some ⟨b, o, none⟩) xs.length c ∧ b < w.heap.size ∧ ∀ (j : Nat) x, xs[j]? = some x → w.cell? ⟨b, o + j, none⟩ = some (.int .u8 (x.toNat : Nat))
theorem BytesS.kept {w w' : World} {v : Value} {xs : List UInt8} (h : BytesS w v xs) (hb : Below w.heap.size w w') : BytesS w' v xs := by
  rcases h with h | ⟨b, o, c, hv, hlt, hc⟩
  · exact .inl h
  · exact .inr ⟨b, o, c, hv, Nat.lt_of_lt_of_le hlt hb.size, fun j x hj => by
      rw [← hc j x hj]
      simp only [World.cell?, hb.block b hlt]⟩

set_option maxRecDepth 100000 in
set_option maxHeartbeats 4000000 in
theorem bytes0_walk (A : Option Addr) (c : Nat) (w : World) : Calls Tryz.prog 31 #[.slice A 0 c] w fun e w' => e = .returned (bs [45]) ∧ w' = w := by
  go_enter Tryz.func31, Tryz.ntmps31
  go_wp2
  go_ret
  exact ⟨rfl, rfl⟩
theorem bytes_any {w : World} {v : Value} {xs : List UInt8} (h : BytesS w v xs) (hm : xs.length ≤ 100) : Calls Tryz.prog 31 #[v] w fun e w' => e = .returned (bs (hexOf xs)) ∧ Below w.heap.size w w' := by
  have h0 : ∀ A c, Calls Tryz.prog 31 #[.slice A 0 c] w fun e w' => e = .returned (bs (hexOf [])) ∧ Below w.heap.size w w' := fun A c =>
    (bytes0_walk A c w).mono fun e w' he => by
      obtain ⟨rfl, rfl⟩ := he
      exact ⟨rfl, Below.refl _ _⟩
  rcases h with ⟨rfl, A, c, rfl⟩ | ⟨b, o, c, rfl, hlt, hc⟩
  · exact h0 A c
  · cases xs with
    | nil => exact h0 _ _
    | cons x l =>
      have : hexOf (x :: l) = hexL (x :: l) := by unfold hexOf; rw [if_neg (by simp)]
      rw [this]
      exact bytes_walk b o c _ (x :: l) w rfl hc hlt (by simp) hm

theorem texts_len {w : World} {v : Value} {xs : List ByteArray} (h : TextsS w v xs) : ∃ A c, v = .slice A xs.length c := by
  rcases h with ⟨rfl, rfl⟩ | ⟨a, c, rfl, _⟩
  · exact ⟨none, 0, rfl⟩
  · exact ⟨some a, c, rfl⟩

theorem joinTail_len (sep : List UInt8) (z : Nat) : ∀ (ls : List (List UInt8)), (∀ x ∈ ls, x.length ≤ z) → (Lib.joinTail sep ls).length ≤ ls.length * (sep.length + z)
  | [], _ => by simp [Lib.joinTail]
  | x :: l, h => by
    have h1 := joinTail_len sep z l fun y hy => h y (by simp [hy])
    have h2 := h x (by simp)
    simp only [Lib.joinTail, List.map_cons, List.flatten_cons, List.length_append, List.length_cons] at *
    rw [Nat.add_mul]
    omega

theorem kept_cell {w w' : World} {a : Addr} {v : Value} (h : w.cell? a = some v) (hb : Below w.heap.size w w') : w'.cell? a = some v := by
  rw [← h]
  exact World.cell?_of_block (hb.block _ (World.block_lt_of_cell? w a h))
theorem itoa_short (n : Nat) (h : n ≤ 1000) : (Lib.itoa n).length ≤ 101 := by
  have d2 := dec_len (n : Int).toNat
  unfold Lib.itoa
  rw [if_neg (by omega)]
  omega
theorem data_len (x : ByteArray) : x.data.toList.length = x.size := Array.length_toList
variable (k n : Int) (E V1 V2 : Value)
def resV (k n : Int) (E V1 V2 : Value) : Value := .agg #[.int .i64 k, .int .i64 n, E, V1, V2]

set_option maxRecDepth 100000 in
set_option maxHeartbeats 4000000 in
theorem fared_version (w : World) (hk : k = 1 ∨ k = 4 ∨ k = 6) (h0 : -9223372036854775808 ≤ n) (h1 : n ≤ 9223372036854775807) (ht : Tab w) :
    Calls Tryz.prog 20 #[resV k n E V1 V2] w fun e w' => e = .returned (bs (versionB ++ Lib.itoa n)) ∧ Below w.heap.size w w' := by
  have hbox : Below w.heap.size w (w.alloc (.cells #[.int .i64 k, .int .i64 n, E, V1, V2] 33)) := (Below.refl _ _).alloc (Nat.le_refl _) _
  have hi := itoa_walk n h0 h1 _ (tab_kept ht hbox)
  have hl := itoa_len n h0 h1
  have HB := Lib.hid hbox
  unfold resV
  clear hbox ht
  generalize Lib.itoa n = T at *
  unfold bs at hi
  rcases hk with rfl | rfl | rfl
  all_goals
    go_enter Tryz.func20, Tryz.ntmps20
    go_wp2_with (go_at_call 23; refine hi.mono ?_; rintro e w1 ⟨rfl, hb1⟩; have HB1 := Lib.hid hb1; clear hb1)
    go_ret
    exact ⟨by simp [bs, versionB, ByteArray.ext_iff], HB.out.trans (HB1.out.mono HB.out.size)⟩

set_option maxRecDepth 100000 in
set_option maxHeartbeats 4000000 in
theorem fared_bytes (w : World) (b : List UInt8) (hb : BytesS w V1 b) (hm : b.length ≤ 100) :
    Calls Tryz.prog 20 #[resV 3 n E V1 V2] w fun e w' => e = .returned (bs (bytesB ++ hexOf b)) ∧ Below w.heap.size w w' := by
  have hbox : Below w.heap.size w (w.alloc (.cells #[.int .i64 3, .int .i64 n, E, V1, V2] 33)) := (Below.refl _ _).alloc (Nat.le_refl _) _
  have hi := bytes_any (hb.kept hbox) hm
  have hl : (hexOf b).length ≤ 1000 := by
    unfold hexOf
    split
    · simp
    · rw [hexL_len]; omega
  have HB := Lib.hid hbox
  unfold resV
  clear hbox hb hm
  generalize hexOf b = T at *
  unfold bs at hi
  go_enter Tryz.func20, Tryz.ntmps20
  go_wp2_with (go_at_call 31; refine hi.mono ?_; rintro e w1 ⟨rfl, hb1⟩; have HB1 := Lib.hid hb1; clear hb1)
  go_ret
  exact ⟨by simp [bs, bytesB, ByteArray.ext_iff], HB.out.trans (HB1.out.mono HB.out.size)⟩

set_option maxRecDepth 100000 in
set_option maxHeartbeats 4000000 in
theorem fared_done (w : World) (h1 : k ≠ 1) (h4 : k ≠ 4) (h6 : k ≠ 6) (h3 : k ≠ 3) (h5 : k ≠ 5) :
    Calls Tryz.prog 20 #[resV k n E V1 V2] w fun e w' => e = .returned (bs doneB) ∧ Below w.heap.size w w' := by
  have e1 : (k == 1) = false := by simpa using h1
  have e4 : (k == 4) = false := by simpa using h4
  have e6 : (k == 6) = false := by simpa using h6
  have e3 : (k == 3) = false := by simpa using h3
  have e5 : (k == 5) = false := by simpa using h5
  unfold resV
  clear h1 h4 h6 h3 h5
  go_enter Tryz.func20, Tryz.ntmps20
  go_wp2
  go_ret
  exact ⟨rfl, (Below.refl _ _).alloc (Nat.le_refl _) _⟩

set_option maxRecDepth 100000 in
set_option maxHeartbeats 4000000 in
theorem fared_changes (w : World) (ls : List ByteArray) (hv : TextsS w V2 ls) (hN : ls.length ≤ 20) (hz : ∀ x ∈ ls, x.size ≤ 100) (ht : Tab w) :
    Calls Tryz.prog 20 #[resV 5 n E V1 V2] w fun e w' => e = .returned (bs (changesB ++ Lib.itoa ls.length ++ Lib.joinTail [32, 124, 32] (ls.map (·.data.toList)))) ∧ Below w.heap.size w w' := by
  obtain ⟨A, c, rfl⟩ := texts_len hv
  have hbox : Below w.heap.size w (w.alloc (.cells #[.int .i64 5, .int .i64 n, E, V1, .slice A ls.length c] 33)) := (Below.refl _ _).alloc (Nat.le_refl _) _
  unfold resV
  have HB := Lib.hid hbox
  have HV := Lib.hid hv
  have HT := Lib.hid ht
  have hcell : (w.alloc (.cells #[.int .i64 5, .int .i64 n, E, V1, .slice A ls.length c] 33)).drew.cell? ⟨w.heap.size, 4, none⟩ = some (.slice A ls.length c) := by
    show (w.alloc _).cell? _ = _
    go_simp
  have HC := Lib.hid hcell
  have hbd : Below w.heap.size w (w.alloc (.cells #[.int .i64 5, .int .i64 n, E, V1, .slice A ls.length c] 33)).drew := hbox.trans ⟨rfl, rfl, rfl, Nat.le_refl _, fun _ _ => rfl⟩
  have HD := Lib.hid hbd
  have hi := itoa_walk ls.length (by omega) (by omega) _ (tab_kept ht hbd)
  have hl := itoa_short ls.length (by omega)
  have hjl : (Lib.joinTail [32, 124, 32] (ls.map (·.data.toList))).length ≤ 10000 := by
    have := joinTail_len [32, 124, 32] 100 (ls.map (·.data.toList)) (fun x hx => by
      obtain ⟨y, hy, rfl⟩ := List.mem_map.1 hx
      have h1 := hz y hy
      have h2 : y.data.toList.length = y.size := Array.length_toList
      show y.data.toList.length ≤ 100
      omega)
    rw [List.length_map] at this
    have h2 : ls.length * (([32, 124, 32] : List UInt8).length + 100) ≤ 20 * 103 := Nat.mul_le_mul hN (Nat.le_refl _)
    omega
  have HN := Lib.hid hN
  clear hbox hv ht hcell hbd hz
  generalize hTd : Lib.itoa ls.length = T at *
  generalize hT : ls.length = N at *
  have hq : ¬ (9223372036854775807 < 8 + T.length) := by omega
  have cj : ∀ (w2 : World) g cap, w2.ownsRow w.heap.size 9 1 (.slice (some ⟨g, 0, none⟩) (1 + N) cap) (1 + N) ([Value.string (⟨changesB.toArray⟩ ++ ⟨T.toArray⟩)] ++ ls.map Value.string) →
      Calls Tryz.prog 22 #[.slice (some ⟨g, 0, none⟩) (1 + N) cap, .string ⟨#[32, 124, 32]⟩] w2 fun e w' => e = .returned (bs (changesB ++ T ++ Lib.joinTail [32, 124, 32] (ls.map (·.data.toList)))) ∧ Below w2.heap.size w2 w' := fun w2 g cap hown2 => by
    have h := join_walk (ys := (⟨changesB.toArray⟩ ++ ⟨T.toArray⟩) :: ls) hown2 (by rw [List.length_cons, hT]; omega) ⟨#[32, 124, 32]⟩ (by
      rw [List.map_cons, Lib.join_cons, List.length_append, data_len, ByteArray.size_append]
      simp only [ByteArray.size, List.size_toArray, changesB, List.length_cons, List.length_nil]
      omega) (by omega)
    rw [List.map_cons, Lib.join_cons] at h
    have e : ((⟨changesB.toArray⟩ : ByteArray) ++ ⟨T.toArray⟩).data.toList = changesB ++ T := by simp [ByteArray.data_append]
    rw [e] at h
    exact h
  unfold bs at hi cj
  have CJ := Lib.hid cj
  clear cj hl
  go_enter Tryz.func20, Tryz.ntmps20
  go_wp2_with fail
  go_region_law (first
    | (go_simp; go_at_call 23; refine hi.mono ?_; rintro e w1 ⟨rfl, hb1⟩; have HB1 := Lib.hid hb1; have hc1 := kept_cell HC.out hb1; have hc2 : ∀ o, (w1.alloc o).cell? ⟨w.heap.size, 4, none⟩ = some (.slice A N c) := fun o => kept_cell hc1 ((Below.refl _ _).alloc (Nat.le_refl _) o); have hw1 := HD.out.trans (hb1.mono HD.out.size); have HW1 := Lib.hid hw1; clear hb1 hw1)
    | (refine step_append_texts rfl (.tmp 26) (.tmp 28) rfl w.heap.size _ 1 [Value.string (⟨changesB.toArray⟩ ++ ⟨T.toArray⟩)] (by simp [Act.eval, Act.put]) (World.ownsRow_lit w1 #[Value.string (⟨changesB.toArray⟩ ++ ⟨T.toArray⟩)] 1 HW1.out.size (by decide) (by rfl)) (.slice A N c) ls (by simp [Act.eval, Act.put]) ((HV.out.kept HW1.out).kept ((Below.refl _ _).alloc (Nat.le_refl _) _)) (by decide) (by omega) (by have := HW1.out.size; simp; omega) ?_; intro g cap w2 hown2 hg2 hb2 hlt2)
    | (go_simp; go_at_call 22; refine (CJ.out w2 g cap (by rw [hT] at hown2; exact hown2)).mono ?_; rintro e w3 ⟨rfl, hb3⟩; have HB3 := Lib.hid hb3; clear hb3))
  all_goals (try go_wp2)
  all_goals go_ret
  all_goals
    refine ⟨rfl, ?_⟩
    have a1 : Below w.heap.size w w2 := (HW1.out.alloc HW1.out.size _).grown hg2 (by have := HW1.out.size; simp; omega) (fun k hk => by
      simp only [Value.ownBlock, Option.some.injEq] at hk
      have := HW1.out.size
      omega)
    exact a1.trans (HB3.out.mono a1.size)
end Go.Proofs.YtnamakmnlagpgaaGreatDoor
