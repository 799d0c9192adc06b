import Derived.Test.YtnjpoodfaendkaaGreatDoorC8
import Derived.Test.YtnjpoodfaendkaaGreatDoorAl
set_option linter.unusedVariables false
set_option linter.unusedSimpArgs false
set_option linter.unusedVariables false
namespace Go.Proofs.YtnjpoodfaendkaaGreatDoor
open Go Go.RowKit Go.AX

theorem kept_obj {w w' : World} {k : Nat} {o : Obj} (h : w.heap[k]? = some o) (hb : Below w.heap.size w w') : w'.heap[k]? = some o := by
  rw [hb.block k (Array.getElem?_eq_some_iff.1 h).1]; exact h
theorem words_kept {w w' : World} (h : WordsAt w) (hb : Below w.heap.size w w') : WordsAt w' := by
  obtain ⟨⟨e3, h3⟩, ⟨e24, h24⟩, ⟨e15, b15, o15, h15⟩, ⟨e19, b19, o19, h19⟩⟩ := h
  exact ⟨⟨e3, kept_obj h3 hb⟩, ⟨e24, kept_obj h24 hb⟩, ⟨e15, b15, o15, kept_obj h15 hb⟩, ⟨e19, b19, o19, kept_obj h19 hb⟩⟩
theorem tab20_kept {w w' : World} (h : Tab20 w) (hb : Below w.heap.size w w') : Tab20 w' := by
  obtain ⟨el, fz, h⟩ := h
  exact ⟨el, fz, kept_obj h hb⟩

/-- a list of texts in memory -/
def TextsAt (w : World) (b o : Nat) (xs : List ByteArray) : Prop := b < w.heap.size ∧ ∀ (j : Nat) x, xs[j]? = some x → w.cell? ⟨b, o + j, none⟩ = some (.string x)
theorem TextsAt.kept {w w' : World} {b o : Nat} {xs : List ByteArray} (h : TextsAt w b o xs) (hb : Below w.heap.size w w') : TextsAt w' b o xs :=
  ⟨Nat.lt_of_lt_of_le h.1 hb.size, fun j x hj => by
    rw [← h.2 j x hj]
    simp only [World.cell?, hb.block b h.1]⟩
/-- a slice of texts -/
def SliceAt (w : World) (A : Option Addr) (n : Nat) (xs : List ByteArray) : Prop := xs.length = n ∧ (n = 0 ∨ ∃ b o, A = some ⟨b, o, none⟩ ∧ TextsAt w b o xs)
theorem SliceAt.kept {w w' : World} {A : Option Addr} {n : Nat} {xs : List ByteArray} (h : SliceAt w A n xs) (hb : Below w.heap.size w w') : SliceAt w' A n xs :=
  ⟨h.1, h.2.imp id fun ⟨b, o, h1, h2⟩ => ⟨b, o, h1, h2.kept hb⟩⟩

set_option maxRecDepth 100000 in
theorem long0_walk (A : Option Addr) (c : Nat) (w : World) : Calls Tryz.prog 5 #[.slice A 0 c, .int .i64 40, .int .i64 200] w fun e w' => e = .returned (.bool false) ∧ w' = w := by
  go_enter Tryz.func5, Tryz.ntmps5
  go_wp2
  refine wp_loop_rounds 1 ?_
  rw [rounds_succ]
  go_wp2
  go_ret
  exact ⟨rfl, rfl⟩
set_option maxRecDepth 100000 in
theorem sum0_walk (A : Option Addr) (c : Nat) (w : World) : Calls Tryz.prog 10 #[.slice A 0 c] w fun e w' => e = .returned (.int .u32 0) ∧ w' = w := by
  go_enter Tryz.func10, Tryz.ntmps10
  go_wp2
  refine wp_loop_rounds 1 ?_
  rw [rounds_succ]
  go_wp2
  go_ret
  exact ⟨rfl, rfl⟩

theorem long_any {w : World} {A : Option Addr} {n : Nat} {xs : List ByteArray} (h : SliceAt w A n xs) (c : Nat) (hm : n ≤ 9223372036854775807) (hsz : ∀ x ∈ xs, x.size ≤ 9223372036854775807) :
    Calls Tryz.prog 5 #[.slice A n c, .int .i64 40, .int .i64 200] w fun e w' => e = .returned (.bool (longB xs)) ∧ w' = w := by
  obtain ⟨hn, rfl | ⟨b, o, rfl, hT⟩⟩ := h
  · have : xs = [] := List.length_eq_zero_iff.1 hn
    subst this
    exact long0_walk A c w
  · exact long_walk b o c n xs w hn hT.2 hm hsz
theorem sum_any {w : World} {A : Option Addr} {n : Nat} {xs : List ByteArray} (h : SliceAt w A n xs) (c : Nat) (hm : n ≤ 1000000) (hsz : ∀ x ∈ xs, x.size ≤ 1000) :
    Calls Tryz.prog 10 #[.slice A n c] w fun e w' => e = .returned (.int .u32 (u (~~~(crcF ones (catL xs))))) ∧ Below w.heap.size w w' := by
  obtain ⟨hn, rfl | ⟨b, o, rfl, hT⟩⟩ := h
  · have : xs = [] := List.length_eq_zero_iff.1 hn
    subst this
    refine (sum0_walk A c w).mono fun e w' he => ?_
    obtain ⟨rfl, rfl⟩ := he
    exact ⟨rfl, Below.refl _ _⟩
  · exact sum_walk b o c n xs w hn hT.2 hm hsz hT.1

theorem catL_len (xs : List ByteArray) (h : ∀ x ∈ xs, x.size ≤ 200) : (catL xs).length ≤ 201 * xs.length := by
  induction xs with
  | nil => simp [catL]
  | cons x l ih =>
    have h1 := h x (by simp)
    have h2 := ih fun y hy => h y (by simp [hy])
    have : x.data.toList.length = x.size := Array.length_toList
    simp only [catL, List.length_append, List.length_cons, List.length_nil, this]
    omega
end Go.Proofs.YtnjpoodfaendkaaGreatDoor
