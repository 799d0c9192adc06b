import Derived.Test.YtnamakmnlagpgaaGreatDoorSmall
import Derived.Test.YtnamakmnlagpgaaGreatDoorShelf
import Derived.Deep.AppendLies
import Derived.Deep.RegionLaw
import Derived.Lib.ItoaNum
set_option linter.unusedVariables false
set_option linter.unusedSimpArgs false
namespace Go.Proofs.YtnamakmnlagpgaaGreatDoor
open Go Go.RowKit

def hexT : List UInt8 := [48, 49, 50, 51, 52, 53, 54, 55, 56, 57, 97, 98, 99, 100, 101, 102]
def hexD (n : Nat) : UInt8 := hexT.getD n 0
def hexL (l : List UInt8) : List UInt8 := l.flatMap fun b => [hexD (b.toNat / 16), hexD (b.toNat % 16)]
def hexOf (l : List UInt8) : List UInt8 := if l = [] then [45] else hexL l
theorem hex_at : ∀ i, (h : i < 16) → ({ data := #[48, 49, 50, 51, 52, 53, 54, 55, 56, 57, 97, 98, 99, 100, 101, 102] } : ByteArray)[i]'h = hexD i := by
  intro i h
  have : ∀ i : Fin 16, ({ data := #[48, 49, 50, 51, 52, 53, 54, 55, 56, 57, 97, 98, 99, 100, 101, 102] } : ByteArray)[i.1]'i.2 = hexD i.1 := by decide
  exact this ⟨i, h⟩
theorem hexL_snoc (l : List UInt8) (b : UInt8) : hexL (l ++ [b]) = hexL l ++ [hexD (b.toNat / 16), hexD (b.toNat % 16)] := by simp [hexL]
theorem hexL_len (l : List UInt8) : (hexL l).length = 2 * l.length := by
  induction l with
  | nil => rfl
  | cons b l ih => simp only [hexL, List.flatMap_cons, List.length_append, List.length_cons, List.length_nil] at *; omega

set_option maxRecDepth 100000 in
set_option maxHeartbeats 4000000 in
theorem bytes_walk (b o c n : Nat) (xs : List UInt8) (w : World) (hn : xs.length = n) (hc : ∀ (j : Nat) x, xs[j]? = some x → w.cell? ⟨b, o + j, none⟩ = some (.int .u8 (x.toNat : Nat))) (hbk : b < w.heap.size) (h0 : 0 < n) (hm : n ≤ 100) :
    Calls Tryz.prog 31 #[.slice (some ⟨b, o, none⟩) n c] w fun e w' => e = .returned (bs (hexL xs)) ∧ Below w.heap.size w w' := by
  have hfresh := Lib.fresh_isBuilder 85 5 w
  have HF := Lib.hid hfresh
  clear hfresh
  have hn0 : ((n : Int) == 0) = false := by simp; omega
  go_enter Tryz.func31, Tryz.ntmps31
  go_wp2_with fail
  go_loopw [11] (fun i wr => ∃ k : Nat, k ≤ n ∧ i = .int .i64 k ∧ Lib.IsBuilder 85 5 w.heap.size w.heap.size (Lib.byteCells (hexL (xs.take k))) wr ∧ Below w.heap.size w wr) (fun i _ => n - (intOf i).toNat)
  case atStart => exact ⟨0, Nat.zero_le _, rfl, HF.out, (Below.refl _ _).alloc (Nat.le_refl _) _⟩
  case round =>
    obtain ⟨k, hk, rfl, hB, hb⟩ := hrel
    by_cases hlt : k < n
    · have hl : k < xs.length := by omega
      have hcell : wr.cell? ⟨b, o + k, none⟩ = some (.int .u8 (xs[k].toNat : Nat)) := by
        rw [← hc k xs[k] (List.getElem?_eq_getElem hl)]
        simp only [World.cell?, hb.block b hbk]
      have hnext : hexL (xs.take (k + 1)) = hexL (xs.take k) ++ [hexD (xs[k].toNat / 16), hexD (xs[k].toNat % 16)] := by
        rw [List.take_add_one, List.getElem?_eq_getElem hl]
        exact hexL_snoc _ _
      have hx : xs[k].toNat < 256 := xs[k].toNat_lt
      generalize xs[k].toNat = x at *
      have HN := Lib.hid hnext
      have HB := Lib.hid hB
      have Hb := Lib.hid hb
      clear hnext hB hb hc
      have q1 : (x : Int) / 16 < 16 := by omega
      have q2 : 0 ≤ (x : Int) / 16 := by omega
      have q3 : (x : Int) % 16 < 16 := by omega
      have q4 : 0 ≤ (x : Int) % 16 := by omega
      have l1 : (hexL (List.take k xs)).length = 2 * k := by
        rw [hexL_len, List.length_take]; omega
      have L1 := Lib.hid l1
      clear l1
      go_wp2_with (first
        | (go_at_call 49; refine (Tryz.Builder_WriteByte w.heap.size w.heap.size (Lib.byteCells (hexL (List.take k xs))) _ wr HB.out (by rw [Lib.byteCells_length, L1.out]; omega) Hb.out.size).mono ?_; rintro e w1 ⟨rfl, hB1, hb1⟩; have HB1 := Lib.hid hB1; have Hb1 := Lib.hid (Hb.out.trans hb1); clear hB1 hb1)
        | (go_at_call 49; refine (Tryz.Builder_WriteByte w.heap.size w.heap.size _ _ w1 (.inr HB1.out) (by rw [List.length_append, Lib.byteCells_length, L1.out, List.length_singleton]; omega) Hb1.out.size).mono ?_; rintro e w2 ⟨rfl, hB2, hb2⟩; have HB2 := Lib.hid hB2; have Hb2 := Lib.hid (Hb1.out.trans hb2); clear hB2 hb2))
      go_roundw
      case rel =>
        refine ⟨k + 1, by omega, by go_num, .inr ?_, Hb2.out⟩
        have h2 := HB2.out
        rw [hex_at, hex_at] at h2
        rw [HN.out]
        have e : Lib.byteCells (hexL (List.take k xs) ++ [hexD (x / 16), hexD (x % 16)]) = Lib.byteCells (hexL (List.take k xs)) ++ [.int .u8 (hexD (x / 16)).toNat] ++ [.int .u8 (hexD (x % 16)).toNat] := by
          simp [Lib.byteCells]
        rw [e]
        exact h2
      case measure => simp [intOf]; omega
    · have : k = n := by omega
      subst this
      have ht : xs.take k = xs := by rw [← hn, List.take_length]
      rw [ht] at hB
      have hne : hexL xs ≠ [] := by
        intro h
        have := hexL_len xs
        rw [h] at this
        simp at this
        omega
      have HB := Lib.hid hB
      have Hb := Lib.hid hb
      have HN := Lib.hid hne
      clear hB hb hc hne ht
      go_wp2_with (go_at_call 36; refine (Tryz.Builder_String w.heap.size w.heap.size (hexL xs) wr HB.out HN.out).mono ?_; rintro e w1 ⟨rfl, hb1⟩)
      go_ret
      exact ⟨rfl, Hb.out.trans hb1⟩
end Go.Proofs.YtnamakmnlagpgaaGreatDoor

namespace Go.Proofs.YtnamakmnlagpgaaGreatDoor
open Go Go.RowKit Go.Sort

/-! ### numbers' figures -/
abbrev Tab (w : World) : Prop := Lib.TabIs Tryz.prog w "internal/strconv.uint64pow10" .u64 Lib.pow10Tab
theorem tab_kept {w w' : World} (h : Tab w) (hb : Below w.heap.size w w') : Tab w' := by
  unfold Tab Lib.TabIs World.var? at *
  cases hg : Tryz.prog.globalNamed "internal/strconv.uint64pow10" with
  | none => rw [hg] at h; cases h
  | some g =>
    rw [hg] at h
    simp only [Option.bind_some] at h ⊢
    cases hc : w.heap[g]? with
    | none => rw [hc] at h; cases h
    | some o =>
      have hlt : g < w.heap.size := (Array.getElem?_eq_some_iff.1 hc).1
      rw [hb.block g hlt, hc]
      rw [hc] at h
      exact h
theorem below_grow (w : World) (k : Nat) (os : Array Obj) : Below w.heap.size w (grow (w.drewN k) os) :=
  ⟨rfl, rfl, rfl, by simp [grow, World.drewN], fun i hi => by
    show (w.heap ++ os)[i]? = w.heap[i]?
    rw [Array.getElem?_append_left hi]⟩
theorem itoa_walk (n : Int) (h0 : -9223372036854775808 ≤ n) (h1 : n ≤ 9223372036854775807) (w : World) (ht : Tab w) :
    Calls Tryz.prog 23 #[.int .i64 n] w fun e w' => e = .returned (bs (Lib.itoa n)) ∧ Below w.heap.size w w' :=
  (Tryz.strconv_Itoa n h0 h1 w ht).mono fun e w' he => by
    obtain ⟨rfl, k, os, rfl⟩ := he
    exact ⟨rfl, below_grow _ _ _⟩
theorem itoa_len (n : Int) (h0 : -9223372036854775808 ≤ n) (h1 : n ≤ 9223372036854775807) : (Lib.itoa n).length ≤ 922337203685477590 := by
  have d1 := dec_len n.natAbs
  have d2 := dec_len n.toNat
  unfold Lib.itoa
  split
  · simp only [List.length_cons]; omega
  · omega

/-! ### a slice of texts -/
def TextsS (w : World) (v : Value) (xs : List ByteArray) : Prop :=
  (v = .slice none 0 0 ∧ xs = []) ∨ ∃ a c, v = .slice (some a) xs.length c ∧ (xs = [] ∨ a.block < w.heap.size) ∧ ∀ (j : Nat) x, xs[j]? = some x → w.cell? (a.add j) = some (.string x)
theorem TextsS.kept {w w' : World} {v : Value} {xs : List ByteArray} (h : TextsS w v xs) (hb : Below w.heap.size w w') : TextsS w' v xs := by
  rcases h with h | ⟨a, c, hv, ha, hc⟩
  · exact .inl h
  · refine .inr ⟨a, c, hv, ha.imp id fun h => Nat.lt_of_lt_of_le h hb.size, fun j x hj => ?_⟩
    rw [← hc j x hj]
    refine World.cell?_of_block (hb.block _ ?_)
    rcases ha with rfl | ha
    · simp at hj
    · have : (a.add j).block = a.block := by unfold Addr.add; split <;> rfl
      rw [this]; exact ha
theorem TextsS.keptB {w w' : World} {B : Nat} {v : Value} {xs : List ByteArray} (h : TextsS w v xs) (hlt : ∀ a n c, v = .slice (some a) n c → xs ≠ [] → a.block < B) (hb : Below B w w') : TextsS w' v xs := by
  rcases h with h | ⟨a, c, hv, ha, hc⟩
  · exact .inl h
  · by_cases hx : xs = []
    · subst hx
      exact .inr ⟨a, c, hv, .inl rfl, fun j x hj => by simp at hj⟩
    · have hab := hlt a _ c hv hx
      have hsz : a.block < w.heap.size := by
        rcases ha with h | h
        · exact absurd h hx
        · exact h
      refine .inr ⟨a, c, hv, .inr (Nat.lt_of_lt_of_le hsz hb.size), fun j x hj => ?_⟩
      rw [← hc j x hj]
      have : (a.add j).block = a.block := by unfold Addr.add; split <;> rfl
      exact World.cell?_of_block (hb.block _ (by rw [this]; exact hab))

theorem infoStr : (Tryz.prog.info? 9).map (fun i => (i.zero, i.size, i.bytes)) = some (some (.string ⟨#[]⟩), 1, 16) := by kernel_rfl

/-- append of texts onto an own row -/
theorem run_append_texts (w : World) (ty : TypeId) (base : Nat) (v0 : Value) (n : Nat) (xs0 : List Value) (hown : w.ownsRow base 9 1 v0 n xs0) (v : Value) (xs : List ByteArray) (hv : TextsS w v xs) (h0 : 0 < n) (hN : n + xs.length ≤ 100000) (hbase : base ≤ w.heap.size) :
    ∃ g cap w', (Builtin.append_ #[24, 24] ty #[v0, v]).run Tryz.prog w = .ok (.slice (some ⟨g, 0, none⟩) (n + xs.length) cap) w' ∧ w'.ownsRow base 9 1 (.slice (some ⟨g, 0, none⟩) (n + xs.length) cap) (n + xs.length) (xs0 ++ xs.map Value.string) ∧ w.grownBy w' v0.ownBlock ∧ base ≤ g ∧ g < w'.heap.size := by
  obtain ⟨i0, hi, hz0, hz1, hz2⟩ := info_parts infoStr
  rcases hv with ⟨rfl, rfl⟩ | ⟨a, c, rfl, ha, hc⟩
  · have hrun := run_append_owned_none (P := Tryz.prog) (w := w) base 24 ty 9 i0 1 Tryz.underlying24 hi v0 n xs0 hown
    obtain ⟨g, cap, rfl, hb, hlt⟩ := hown.form h0
    exact ⟨g, cap, w, hrun, by simpa using hown, World.grownBy.refl _ _, hb, hlt⟩
  · have hmax : n + xs.length ≤ maxLen := by unfold maxLen; omega
    obtain ⟨v', w', hrun, h1, h2, _⟩ := run_append_own (P := Tryz.prog) w base 24 ty 9 i0 (.string ⟨#[]⟩) 1 16 Tryz.underlying24 hi hz0 hz1 hz2 rfl (by decide) v0 n xs0 hown a xs.length c (xs.map Value.string) (by simp) (fun j u hu => by
      rw [List.getElem?_map] at hu
      cases hx : xs[j]? with
      | none => rw [hx] at hu; cases hu
      | some x => rw [hx] at hu; simp only [Option.map_some, Option.some.injEq] at hu; rw [← hu]; exact hc j x hx) (fun u hu => by
      obtain ⟨x, _, rfl⟩ := List.mem_map.1 hu
      rfl) hmax (by omega) hbase
    obtain ⟨g, cap, rfl, hb, hlt⟩ := h1.form (by omega)
    exact ⟨g, cap, w', hrun, h1, h2, hb, hlt⟩

theorem wpList_append_texts {ops : Array Oper} {rest : List Oper} {o : Oper} {a : Act} {w : World} {Q : Exit → Act → World → Prop} (hgd : o.guard = none) (s x : Operand)
    (ho : o.op = .call { callee := .builtin .append, args := #[s, x], argTypes := #[24, 24] })
    (base : Nat) (v0 : Value) (n : Nat) (xs0 : List Value) (hs : a.eval s = v0) (hown : w.ownsRow base 9 1 v0 n xs0) (v : Value) (xs : List ByteArray) (hx : a.eval x = v) (hv : TextsS w v xs) (h0 : 0 < n) (hN : n + xs.length ≤ 100000) (hbase : base ≤ w.heap.size)
    (h : ∀ g cap w', w'.ownsRow base 9 1 (.slice (some ⟨g, 0, none⟩) (n + xs.length) cap) (n + xs.length) (xs0 ++ xs.map Value.string) → w.grownBy w' v0.ownBlock → base ≤ g → g < w'.heap.size → wpList Tryz.prog ops Q rest (a.put o.dst (.slice (some ⟨g, 0, none⟩) (n + xs.length) cap)) w') : wpList Tryz.prog ops Q (o :: rest) a w := by
  refine wpList_plain hgd fun K hK => ?_
  obtain ⟨g, cap, w', hrun, h1, h2, h3, h4⟩ := run_append_texts w o.type base v0 n xs0 hown v xs hv h0 hN hbase
  unfold Oper.wp
  simp [execOp, ho, resolve, invoke, builtin, hs, hx, hrun, Result.andThen]
  exact hK _ _ (h g cap w' h1 h2 h3 h4)
theorem step_append_texts {ops : Array Oper} {o : Oper} {a : Act} {w : World} {K : Act → World → Prop} {Q : Exit → Act → World → Prop} {E : Prop} (hgd : o.guard = none) (s x : Operand)
    (ho : o.op = .call { callee := .builtin .append, args := #[s, x], argTypes := #[24, 24] })
    (base : Nat) (v0 : Value) (n : Nat) (xs0 : List Value) (hs : a.eval s = v0) (hown : w.ownsRow base 9 1 v0 n xs0) (v : Value) (xs : List ByteArray) (hx : a.eval x = v) (hv : TextsS w v xs) (h0 : 0 < n) (hN : n + xs.length ≤ 100000) (hbase : base ≤ w.heap.size)
    (h : ∀ g cap w', w'.ownsRow base 9 1 (.slice (some ⟨g, 0, none⟩) (n + xs.length) cap) (n + xs.length) (xs0 ++ xs.map Value.string) → w.grownBy w' v0.ownBlock → base ≤ g → g < w'.heap.size → K (a.put o.dst (.slice (some ⟨g, 0, none⟩) (n + xs.length) cap)) w') :
    if Region.wanted o (yielded ops a.tmps) = true then Oper.wp Tryz.prog o a w K Q else E := by
  have hw : Region.wanted o (yielded ops a.tmps) = true := by simp [Region.wanted, hgd]
  rw [if_pos hw]
  obtain ⟨g, cap, w', hrun, h1, h2, h3, h4⟩ := run_append_texts w o.type base v0 n xs0 hown v xs hv h0 hN hbase
  unfold Oper.wp
  simp [execOp, ho, resolve, invoke, builtin, hs, hx, hrun, Result.andThen]
  exact h g cap w' h1 h2 h3 h4

/-- Join of an own row of texts -/
theorem join_walk {w : World} {base g cap n : Nat} {ys : List ByteArray} (hown : w.ownsRow base 9 1 (.slice (some ⟨g, 0, none⟩) n cap) n (ys.map Value.string)) (hn : ys.length = n) (sep : ByteArray) (hlen : (Lib.join (ys.map (·.data.toList)) sep.data.toList).length ≤ 140737488355328) (hN : n ≤ 100000) :
    Calls Tryz.prog 22 #[.slice (some ⟨g, 0, none⟩) n cap, .string sep] w fun e w' => e = .returned (bs (Lib.join (ys.map (·.data.toList)) sep.data.toList)) ∧ Below w.heap.size w w' := by
  have hlt := (hown.lt g rfl).2
  have hcap : n ≤ cap := by
    rcases hown.2 with ⟨h, _⟩ | ⟨g', cap', cur, h, _, _, hle, _⟩
    · cases h
    · simp only [Value.slice.injEq] at h
      omega
  subst hn
  refine Tryz.strings_Join g 0 cap ys sep w (fun j x hj => ?_) hlt (by omega) hcap hlen
  have := hown.cellAt j (by have := (List.getElem?_eq_some_iff.1 hj).1; omega)
  rw [Nat.zero_add, this, List.getElem?_map, hj]; rfl
end Go.Proofs.YtnamakmnlagpgaaGreatDoor
