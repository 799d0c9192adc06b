import Derived.Test.YtnamakmnlagpgaaGreatDoorMake
set_option linter.unusedVariables false
set_option linter.unusedSimpArgs false
namespace Go.Proofs.YtnamakmnlagpgaaGreatDoor
open Go Go.RowKit

/-! ### lists of results -/
structure It where
  k : Int
  n : Int
  x : Int
  A1 : Option Addr
  n1 : Nat
  c1 : Nat
  A2 : Option Addr
  n2 : Nat
  c2 : Nat
  b : List UInt8
  ls : List ByteArray
def It.V1 (t : It) : Value := .slice t.A1 t.n1 t.c1
def It.V2 (t : It) : Value := .slice t.A2 t.n2 t.c2
structure It.Good (w : World) (t : It) : Prop where
  hb : BytesS w (.slice t.A1 t.n1 t.c1) t.b
  hm : t.b.length ≤ 100
  hv : TextsS w (.slice t.A2 t.n2 t.c2) t.ls
  hN : t.ls.length ≤ 20
  hz : ∀ x ∈ t.ls, x.size ≤ 100
  k0 : -9223372036854775808 ≤ t.k
  k1 : t.k ≤ 9223372036854775807
  n0 : -9223372036854775808 ≤ t.n
  n1' : t.n ≤ 9223372036854775807
theorem It.Good.kept {w w' : World} {t : It} (h : t.Good w) (hb : Below w.heap.size w w') : t.Good w' :=
  ⟨h.hb.kept hb, h.hm, h.hv.kept hb, h.hN, h.hz, h.k0, h.k1, h.n0, h.n1'⟩
def It.line (t : It) : ByteArray := ⟨(resT t.k t.n (badN t.x) t.b t.ls).toArray⟩
noncomputable def It.cells (eb eo : Nat → Nat) (t : It) : List Value := [.int .i64 t.k, .int .i64 t.n, errOf eb eo t.x, .slice t.A1 t.n1 t.c1, .slice t.A2 t.n2 t.c2]
theorem owns_below {w w' : World} {base : Nat} {e : TypeId} {size : Nat} {v : Value} {n : Nat} {xs : List Value} (h : w.ownsRow base e size v n xs) (hb : Below w.heap.size w w') : w'.ownsRow base e size v n xs :=
  h.kept (row := none) ⟨hb.os, hb.tape, hb.output, hb.size, fun k hk _ => hb.block k hk⟩ (by cases hv : v.ownBlock <;> simp)
theorem errOf_form (eb eo : Nat → Nat) (x : Int) : errOf eb eo x = .nilIface ∨ ∃ p, errOf eb eo x = .iface 792 p := by
  unfold errOf
  split
  · exact .inr ⟨_, rfl⟩
  · exact .inl rfl
theorem wpList_append_one {ops : Array Oper} {rest : List Oper} {o : Oper} {a : Act} {w1 : World} {Q : Exit → Act → World → Prop} (hgd : o.guard = none) (s x : Operand)
    (ho : o.op = .call { callee := .builtin .append, args := #[s, x], argTypes := #[24, 24] })
    (base : Nat) (v0 : Value) (n : Nat) (xs0 : List Value) (hs : a.eval s = v0) (hown : w1.ownsRow base 9 1 v0 n xs0) (y : ByteArray) (hx : a.eval x = .slice (some ⟨w1.heap.size, 0, none⟩) 1 1) (hN : n ≤ 100000) (hbase : base ≤ w1.heap.size)
    (h : ∀ v' w', w'.ownsRow base 9 1 v' (n + 1) (xs0 ++ [.string y]) → (w1.alloc (.cells #[.string y] 9)).grownBy w' v0.ownBlock → wpList Tryz.prog ops Q rest (a.put o.dst v') w') : wpList Tryz.prog ops Q (o :: rest) a (w1.alloc (.cells #[.string y] 9)) := by
  obtain ⟨i0, hi, hz0, hz1, hz2⟩ := info_parts infoStr
  refine wpList_append_own _ hgd s x 24 ho base 9 i0 (.string ⟨#[]⟩) 1 16 Tryz.underlying24 hi hz0 hz1 hz2 rfl (by decide) v0 n xs0 hs (hown.alloc _) ⟨w1.heap.size, 0, none⟩ 1 1 [.string y] hx rfl (fun j u hu => ?_) (fun u hu => ?_) (by unfold maxLen; omega) (by omega) (by simp; omega) (fun v' w' h1 h2 _ => h v' w' h1 h2)
  · match j, hu with
    | 0, hu =>
      simp at hu
      subst hu
      rw [add_plain0]
      exact boxcell (heap_alloc_new w1 _) 0 _ rfl
  · simp at hu; subst hu; rfl
theorem cells5 : Tryz.prog.cellsOf 33 = 5 := by kernel_rfl

set_option maxRecDepth 100000 in
set_option maxHeartbeats 4000000 in
theorem results_walk (g m c : Nat) (its : List It) (hm : its.length = m) (hm20 : m ≤ 20) (w : World) (hw : WordsAt w) {eb eo : Nat → Nat} (he : ErrsAt w eb eo) (ht : Tab w) (hg : g < w.heap.size)
    (hc : ∀ (i : Nat) t, its[i]? = some t → t.Good w ∧ ∀ (j : Nat) v, (t.cells eb eo)[j]? = some v → w.cell? ⟨g, 5 * i + j, none⟩ = some v) :
    Calls Tryz.prog 11 #[.slice (some ⟨g, 0, none⟩) m c] w fun e w' => ∃ v, e = .returned v ∧ w'.ownsRow w.heap.size 9 1 v m (its.map fun t => Value.string t.line) ∧ Below w.heap.size w w' := by
  obtain ⟨i0, hi, hz0, hz1, hz2⟩ := info_parts infoStr
  have HC := Lib.hid hc
  have HW := Lib.hid hw
  have HE := Lib.hid he
  have HT := Lib.hid ht
  clear hc hw he ht
  go_enter Tryz.func11, Tryz.ntmps11
  go_wp2_with fail
  go_loopw [3, 8] (fun v i wr => ∃ q : Nat, q ≤ m ∧ i = .int .i64 q ∧ wr.ownsRow w.heap.size 9 1 v q ((its.take q).map fun t => Value.string t.line) ∧ Below w.heap.size w wr) (fun _ i _ => m - (intOf i).toNat)
  case atStart => exact ⟨0, Nat.zero_le _, rfl, World.ownsRow_nil _ _ _ _, Below.refl _ _⟩
  case round =>
    obtain ⟨q, hq, rfl, hown, hb⟩ := hrel
    by_cases hlt : q < m
    · have hl : q < its.length := by omega
      obtain ⟨hgood, hcs⟩ := HC.out q its[q] (List.getElem?_eq_getElem hl)
      have hkc : ∀ (j : Nat) v, (its[q].cells eb eo)[j]? = some v → wr.cell? ⟨g, 5 * q + j, none⟩ = some v := fun j v hj => by
        rw [← hcs j v hj]
        simp only [World.cell?, hb.block g hg]
      have hnext : (its.take (q + 1)).map (fun t => Value.string t.line) = (its.take q).map (fun t => Value.string t.line) ++ [Value.string its[q].line] := by
        rw [List.take_add_one, List.getElem?_eq_getElem hl, List.map_append]
        rfl
      have d0 := hkc 0 _ rfl
      have d1 := hkc 1 _ rfl
      have d2 := hkc 2 _ rfl
      have d3 := hkc 3 _ rfl
      have d4 := hkc 4 _ rfl
      have eq5 : 5 * q = q * 5 := Nat.mul_comm _ _
      rw [eq5] at d0 d1 d2 d3 d4
      clear eq5
      simp only [Nat.add_zero] at d0
      have HN := Lib.hid hnext
      clear hnext
      generalize its[q] = t at *
      obtain ⟨E, hE0⟩ : ∃ E, E = errOf eb eo t.x := ⟨_, rfl⟩
      have hE := errOf_form eb eo t.x
      rw [← hE0] at d2 hE
      have HE0 := Lib.hid hE0
      clear hE0
      have HO := Lib.hid hown
      have HB := Lib.hid hb
      clear hkc hcs hown hb
      rcases hE with rfl | ⟨p, rfl⟩
      · obtain ⟨W0, hW0⟩ : ∃ W, W = wr.alloc (.cells #[.int .i64 t.k, .int .i64 t.n, .nilIface, .slice t.A1 t.n1 t.c1, .slice t.A2 t.n2 t.c2] 33) := ⟨_, rfl⟩
        have b0 : Below wr.heap.size wr W0 := by rw [hW0]; exact (Below.refl _ _).alloc (Nat.le_refl _) _
        have b1 := HB.out.trans (b0.mono HB.out.size)
        have gd := hgood.kept b1
        have c9 := result_any t.k t.n _ _ W0 (words_kept HW.out b1) (HE.out.kept b1) t.x t.b gd.hb gd.hm t.ls gd.hv gd.hN gd.hz gd.k0 gd.k1 gd.n0 gd.n1' (tab_kept HT.out b1)
        rw [← HE0.out, hW0] at c9
        rw [hW0] at b0 b1
        have B0 := Lib.hid b0
        have B1 := Lib.hid b1
        clear b0 b1 gd hW0 hgood
        have hline : (⟨(resT t.k t.n (badN t.x) t.b t.ls).toArray⟩ : ByteArray) = t.line := rfl
        unfold resV bs at c9
        rw [hline] at c9
        clear hline
        generalize t.line = Y at *
        go_wp2_with (first
          | (go_at_call 9; refine c9.mono ?_; rintro e w1 ⟨rfl, hb1⟩; have O1 := Lib.hid (owns_below (owns_below HO.out B0.out) hb1); have B2 := Lib.hid (B1.out.trans (hb1.mono B1.out.size)); clear hb1)
          | (at_builtin; refine wpList_append_one rfl (.tmp 12) (.tmp 15) rfl w.heap.size _ q _ (by rfl) O1.out Y (by rfl) (by omega) B2.out.size ?_; intro v' w2 hown' hgrow; have O2 := Lib.hid hown'; have G2 := Lib.hid hgrow; clear hown' hgrow))
        go_roundw
        case rel =>
          refine ⟨q + 1, by omega, by go_num, by rw [HN.out]; exact O2.out, ?_⟩
          exact (B2.out.alloc B2.out.size _).grown G2.out (by have := B2.out.size; simp; omega) (fun k hk => (HO.out.lt k hk).1)
        case measure => simp [intOf]; omega
      · obtain ⟨W0, hW0⟩ : ∃ W, W = wr.alloc (.cells #[.int .i64 t.k, .int .i64 t.n, .iface 792 p, .slice t.A1 t.n1 t.c1, .slice t.A2 t.n2 t.c2] 33) := ⟨_, rfl⟩
        have b0 : Below wr.heap.size wr W0 := by rw [hW0]; exact (Below.refl _ _).alloc (Nat.le_refl _) _
        have b1 := HB.out.trans (b0.mono HB.out.size)
        have gd := hgood.kept b1
        have c9 := result_any t.k t.n _ _ W0 (words_kept HW.out b1) (HE.out.kept b1) t.x t.b gd.hb gd.hm t.ls gd.hv gd.hN gd.hz gd.k0 gd.k1 gd.n0 gd.n1' (tab_kept HT.out b1)
        rw [← HE0.out, hW0] at c9
        rw [hW0] at b0 b1
        have B0 := Lib.hid b0
        have B1 := Lib.hid b1
        clear b0 b1 gd hW0 hgood
        have hline : (⟨(resT t.k t.n (badN t.x) t.b t.ls).toArray⟩ : ByteArray) = t.line := rfl
        unfold resV bs at c9
        rw [hline] at c9
        clear hline
        generalize t.line = Y at *
        go_wp2_with (first
          | (go_at_call 9; refine c9.mono ?_; rintro e w1 ⟨rfl, hb1⟩; have O1 := Lib.hid (owns_below (owns_below HO.out B0.out) hb1); have B2 := Lib.hid (B1.out.trans (hb1.mono B1.out.size)); clear hb1)
          | (at_builtin; refine wpList_append_one rfl (.tmp 12) (.tmp 15) rfl w.heap.size _ q _ (by rfl) O1.out Y (by rfl) (by omega) B2.out.size ?_; intro v' w2 hown' hgrow; have O2 := Lib.hid hown'; have G2 := Lib.hid hgrow; clear hown' hgrow))
        go_roundw
        case rel =>
          refine ⟨q + 1, by omega, by go_num, by rw [HN.out]; exact O2.out, ?_⟩
          exact (B2.out.alloc B2.out.size _).grown G2.out (by have := B2.out.size; simp; omega) (fun k hk => (HO.out.lt k hk).1)
        case measure => simp [intOf]; omega
    · have : q = m := by omega
      subst this
      have htk : its.take q = its := by rw [← hm]; exact List.take_length
      rw [htk] at hown
      go_wp2
      go_ret
      exact ⟨_, rfl, hown, hb⟩
end Go.Proofs.YtnamakmnlagpgaaGreatDoor

namespace Go.Proofs.YtnamakmnlagpgaaGreatDoor
open Go Go.RowKit

/-! ### the rows that come in -/
structure It.Raw (w : World) (t : It) : Prop where
  hb : BytesS w (.slice t.A1 t.n1 t.c1) t.b
  hv : TextsS w (.slice t.A2 t.n2 t.c2) t.ls
  hl : t.ls.length ≤ 9223372036854775807
  hz : ∀ x ∈ t.ls, x.size ≤ 9223372036854775807
  k0 : -9223372036854775808 ≤ t.k
  k1 : t.k ≤ 9223372036854775807
  n0 : -9223372036854775808 ≤ t.n
  n1' : t.n ≤ 9223372036854775807
theorem It.Raw.kept {w w' : World} {t : It} (h : t.Raw w) (hb : Below w.heap.size w w') : t.Raw w' :=
  ⟨h.hb.kept hb, h.hv.kept hb, h.hl, h.hz, h.k0, h.k1, h.n0, h.n1'⟩
def It.Ok (t : It) : Prop := t.b.length ≤ 100 ∧ longB 20 100 t.ls = false
theorem It.Raw.good {w : World} {t : It} (h : t.Raw w) (ho : t.Ok) : t.Good w := by
  obtain ⟨h1, h2⟩ := ho
  unfold longB at h2
  simp only [Bool.or_eq_false_iff, decide_eq_false_iff_not] at h2
  refine ⟨h.hb, h1, h.hv, by omega, fun x hx => ?_, h.k0, h.k1, h.n0, h.n1'⟩
  have := List.any_eq_false.1 h2.2 x hx
  simp at this
  omega
theorem bytesS_len {w : World} {A : Option Addr} {n c : Nat} {b : List UInt8} (h : BytesS w (.slice A n c) b) : n = b.length := by
  rcases h with ⟨rfl, A', c', h⟩ | ⟨_, _, _, h, _⟩
  · simp only [Value.slice.injEq] at h; simp [h.2.1]
  · simp only [Value.slice.injEq] at h; exact h.2.1
theorem textsS_len {w : World} {A : Option Addr} {n c : Nat} {ls : List ByteArray} (h : TextsS w (.slice A n c) ls) : n = ls.length := by
  obtain ⟨A', c', h⟩ := texts_len h
  simp only [Value.slice.injEq] at h; exact h.2.1

set_option maxRecDepth 100000 in
theorem long0_walk (m z : Nat) (A : Option Addr) (c : Nat) (w : World) (hm : m ≤ 1000000) : Calls Tryz.prog 5 #[.slice A 0 c, .int .i64 m, .int .i64 z] w fun e w' => e = .returned (.bool false) ∧ w' = w := by
  go_enter Tryz.func5, Tryz.ntmps5
  go_wp2
  refine wp_loop_rounds 1 ?_
  rw [rounds_succ]
  go_wp2
  go_ret
  exact ⟨rfl, rfl⟩
theorem long_any {w : World} {v : Value} {ls : List ByteArray} (m z : Nat) (hm0 : m ≤ 1000000) (hz0 : z ≤ 1000000) (h : TextsS w v ls) (hl : ls.length ≤ 9223372036854775807) (hz : ∀ x ∈ ls, x.size ≤ 9223372036854775807) :
    Calls Tryz.prog 5 #[v, .int .i64 m, .int .i64 z] w fun e w' => e = .returned (.bool (longB m z ls)) ∧ w = w' := by
  by_cases hne : ls = []
  · subst hne
    obtain ⟨A, c, rfl⟩ := texts_len h
    refine (long0_walk m z A c w hm0).mono fun e w' he => ?_
    obtain ⟨rfl, rfl⟩ := he
    exact ⟨by simp [longB], rfl⟩
  · obtain ⟨b, o, c, rfl, _, hc⟩ := texts_plain h hne
    refine (long_walk m z b o c _ ls w rfl hc hl hm0 hz0 hz).mono fun e w' he => ?_
    obtain ⟨rfl, rfl⟩ := he
    exact ⟨rfl, rfl⟩

set_option maxRecDepth 100000 in
theorem same0_walk (A A' : Option Addr) (c c' : Nat) (w : World) : Calls Tryz.prog 10 #[.slice A 0 c, .slice A' 0 c'] w fun e w' => e = .returned (.bool true) ∧ w' = w := by
  go_enter Tryz.func10, Tryz.ntmps10
  go_wp2
  refine wp_loop_rounds 1 ?_
  rw [rounds_succ]
  go_wp2
  go_ret
  exact ⟨rfl, rfl⟩
theorem owns_slice {w : World} {base : Nat} {e : TypeId} {size : Nat} {v : Value} {n : Nat} {xs : List Value} (h : w.ownsRow base e size v n xs) : ∃ A c, v = .slice A n c := by
  rcases h.2 with ⟨rfl, rfl⟩ | ⟨g, cap, cur, rfl, _⟩
  · exact ⟨none, 0, rfl⟩
  · exact ⟨some _, cap, rfl⟩
theorem same_any {w : World} {base base' n : Nat} {v v' : Value} {xs : List ByteArray} (hn : xs.length = n) (hm : n ≤ 1000) (h : w.ownsRow base 9 1 v n (xs.map Value.string)) (h' : w.ownsRow base' 9 1 v' n (xs.map Value.string)) :
    Calls Tryz.prog 10 #[v, v'] w fun e w' => e = .returned (.bool true) ∧ ∃ m, w' = w.drewN m := by
  by_cases h0 : n = 0
  · subst h0
    obtain ⟨A, c, rfl⟩ := owns_slice h
    obtain ⟨A', c', rfl⟩ := owns_slice h'
    refine (same0_walk A A' c c' w).mono fun e w' he => ?_
    obtain ⟨rfl, rfl⟩ := he
    exact ⟨rfl, 0, rfl⟩
  · obtain ⟨g, cap, rfl, _, _⟩ := h.form (by omega)
    obtain ⟨g', cap', rfl, _, _⟩ := h'.form (by omega)
    have hc : ∀ {base g cap}, w.ownsRow base 9 1 (.slice (some ⟨g, 0, none⟩) n cap) n (xs.map Value.string) → ∀ (j : Nat) x, xs[j]? = some x → w.cell? ⟨g, 0 + j, none⟩ = some (.string x) := fun {base g cap} h j x hj => by
      have := h.cellAt j (by have := (List.getElem?_eq_some_iff.1 hj).1; omega)
      rw [Nat.zero_add, this, List.getElem?_map, hj]; rfl
    exact same_walk g 0 cap g' 0 cap' n xs w hn (by omega) (hc h) (hc h')

theorem flat5 {eb eo : Nat → Nat} : ∀ (its : List It) (i j : Nat) (t : It) (v : Value), its[i]? = some t → (t.cells eb eo)[j]? = some v → (its.flatMap (It.cells eb eo))[5 * i + j]? = some v
  | [], i, j, t, v, h, _ => by simp at h
  | x :: l, 0, j, t, v, h, hj => by
    simp only [List.getElem?_cons_zero, Option.some.injEq] at h
    subst h
    have hlt : j < (x.cells eb eo).length := (List.getElem?_eq_some_iff.1 hj).1
    simp only [List.flatMap_cons, Nat.mul_zero, Nat.zero_add]
    rw [List.getElem?_append_left hlt]; exact hj
  | x :: l, i + 1, j, t, v, h, hj => by
    have ih := flat5 l i j t v (by simpa using h) hj
    have hl : (x.cells eb eo).length = 5 := rfl
    simp only [List.flatMap_cons]
    rw [List.getElem?_append_right (by omega), hl]
    have : 5 * (i + 1) + j - 5 = 5 * i + j := by omega
    rw [this]; exact ih
theorem flat5_len {eb eo : Nat → Nat} (its : List It) : (its.flatMap (It.cells eb eo)).length = its.length * 5 := by
  induction its with
  | nil => rfl
  | cons x l ih =>
    simp only [List.flatMap_cons, List.length_append, List.length_cons, ih]
    have hl : (x.cells eb eo).length = 5 := rfl
    omega
theorem infoRes : (Tryz.prog.info? 33).map (fun i => (i.zero, i.size, i.bytes)) = some (some (.agg #[.int .i64 0, .int .i64 0, .nilIface, .slice none 0 0, .slice none 0 0]), 5, 80) := by kernel_rfl

theorem wpList_append_res {ops : Array Oper} {rest : List Oper} {o : Oper} {a : Act} {w1 : World} {Q : Exit → Act → World → Prop} (hgd : o.guard = none) (s x : Operand)
    (ho : o.op = .call { callee := .builtin .append, args := #[s, x], argTypes := #[25, 25] })
    (base : Nat) (v0 : Value) (n : Nat) (xs0 : List Value) (hs : a.eval s = v0) (hown : w1.ownsRow base 33 5 v0 n xs0) (y0 y1 y2 y3 y4 : Value) (h1 : y0.oneCell' = true ∧ y1.oneCell' = true ∧ y2.oneCell' = true ∧ y3.oneCell' = true ∧ y4.oneCell' = true) (H : Nat) (hH : w1.heap.size = H) (hx : a.eval x = .slice (some ⟨H, 0, none⟩) 1 1) (hN : n ≤ 100000) (hbase : base ≤ w1.heap.size)
    (h : ∀ g cap w', w'.ownsRow base 33 5 (.slice (some ⟨g, 0, none⟩) (n + 1) cap) (n + 1) (xs0 ++ [y0, y1, y2, y3, y4]) → (w1.alloc (.cells #[y0, y1, y2, y3, y4] 33)).grownBy w' v0.ownBlock → wpList Tryz.prog ops Q rest (a.put o.dst (.slice (some ⟨g, 0, none⟩) (n + 1) cap)) w') : wpList Tryz.prog ops Q (o :: rest) a (w1.alloc (.cells #[y0, y1, y2, y3, y4] 33)) := by
  subst hH
  obtain ⟨i0, hi, hz0, hz1, hz2⟩ := info_parts infoRes
  refine wpList_append_own _ hgd s x 25 ho base 33 i0 _ 5 80 Tryz.underlying25 hi hz0 hz1 hz2 rfl (by decide) v0 n xs0 hs (hown.alloc _) ⟨w1.heap.size, 0, none⟩ 1 1 [y0, y1, y2, y3, y4] hx rfl (fun j u hu => ?_) (fun u hu => ?_) (by unfold maxLen; omega) (by omega) (by simp; omega) (fun v' w' h1 h2 _ => ?_)
  · rw [add_plain0, Nat.zero_add]
    exact boxcell (heap_alloc_new w1 _) j _ (by simpa using hu)
  · simp at hu
    obtain ⟨a0, a1, a2, a3, a4⟩ := h1
    rcases hu with rfl | rfl | rfl | rfl | rfl <;> assumption
  · obtain ⟨g, cap, rfl, _, _⟩ := h1.form (by omega)
    exact h g cap w' h1 h2
/-- two own rows of different make lie apart -/
theorem owns_apart {w : World} {base base' : Nat} {e e' : TypeId} {size size' : Nat} {v v' : Value} {n n' : Nat} {xs xs' : List Value} (h : w.ownsRow base e size v n xs) (h' : w.ownsRow base' e' size' v' n' xs') (hne : e ≠ e') : v.ownBlock = none ∨ v.ownBlock ≠ v'.ownBlock := by
  rcases h.2 with ⟨rfl, _⟩ | ⟨g, cap, cur, rfl, _, hg, _⟩
  · exact .inl rfl
  · right
    rcases h'.2 with ⟨rfl, _⟩ | ⟨g', cap', cur', rfl, _, hg', _⟩
    · simp [Value.ownBlock]
    · simp only [Value.ownBlock, ne_eq, Option.some.injEq]
      rintro rfl
      rw [hg] at hg'
      simp only [Option.some.injEq, Obj.cells.injEq] at hg'
      exact hne hg'.2.1
end Go.Proofs.YtnamakmnlagpgaaGreatDoor
