import Derived.Test.YtnamakmnlagpgaaGreatDoorResult
import Derived.Deep.DeepCutAuto
import Derived.Deep.CutRange
import Derived.IntWalk
set_option linter.unusedVariables false
set_option linter.unusedSimpArgs false
namespace Go.Proofs.YtnamakmnlagpgaaGreatDoor
open Go Go.RowKit

/-! ### redlineref42.Result -/
def refV (k n bad : Int) (S : ByteArray) (V2 : Value) : Value := .agg #[.int .i64 k, .int .i64 n, .int .i64 bad, .string S, V2]

/-- the head: from the table of words, or a question mark -/
theorem head_in (k : Int) (h : 1 ≤ k ∧ k ≤ 11) : headOf k = wordsB.getD k.toNat [] := by
  have h1 : wordOf k = wordsB.getD k.toNat [] := by unfold wordOf; rw [if_pos h]
  unfold headOf toldOf
  rw [h1, if_neg (wordsB_ne _ (by omega) (by omega))]
theorem head_out (k : Int) (h : ¬ (1 ≤ k ∧ k ≤ 11)) : headOf k = [63] := by
  have h1 : wordOf k = [] := by unfold wordOf; rw [if_neg h]
  unfold headOf toldOf
  rw [h1, if_pos rfl]

variable (k n : Int) (V2 : Value)

def inW (k : Int) : Bool := decide (1 ≤ k ∧ k ≤ 11)
theorem add_plain0 (b o j : Nat) : (⟨b, o, none⟩ : Addr).add j = ⟨b, o + j, none⟩ := by unfold Addr.add; split <;> simp_all
theorem texts_plain {w : World} {v : Value} {ls : List ByteArray} (h : TextsS w v ls) (hne : ls ≠ []) : ∃ b o c, v = .slice (some ⟨b, o, none⟩) ls.length c ∧ b < w.heap.size ∧ ∀ (j : Nat) x, ls[j]? = some x → w.cell? ⟨b, o + j, none⟩ = some (.string x) := by
  rcases h with ⟨_, rfl⟩ | ⟨⟨b, o, sp⟩, c, rfl, ha, hc⟩
  · exact absurd rfl hne
  · have hsp : sp = none := by
      cases ls with
      | nil => exact absurd rfl hne
      | cons x l =>
        have := World.cell?_spot (hc 0 x rfl)
        simpa [Addr.add] using this
    subst hsp
    refine ⟨b, o, c, rfl, ha.resolve_left hne, fun j x hj => ?_⟩
    rw [← add_plain0]; exact hc j x hj
theorem joinTail_snoc (sep : List UInt8) (l : List (List UInt8)) (x : List UInt8) : Lib.joinTail sep (l ++ [x]) = Lib.joinTail sep l ++ (sep ++ x) := by simp [Lib.joinTail]
theorem joinTail_take (sep : List UInt8) (ls : List ByteArray) (k : Nat) (h : k < ls.length) : Lib.joinTail sep ((ls.take (k + 1)).map (·.data.toList)) = Lib.joinTail sep ((ls.take k).map (·.data.toList)) ++ (sep ++ ls[k].data.toList) := by
  rw [List.take_add_one, List.getElem?_eq_getElem h]
  simp only [Option.toList_some, List.map_append, List.map_cons, List.map_nil]
  exact joinTail_snoc _ _ _
theorem joinTail_bound (sep : List UInt8) (hs : sep.length ≤ 3) (ls : List ByteArray) (hN : ls.length ≤ 20) (hz : ∀ x ∈ ls, x.size ≤ 100) : (Lib.joinTail sep (ls.map (·.data.toList))).length ≤ 2060 := by
  have := joinTail_len sep 100 (ls.map (·.data.toList)) (fun x hx => by
    obtain ⟨y, hy, rfl⟩ := List.mem_map.1 hx
    have h1 := hz y hy
    have h2 : y.data.toList.length = y.size := Array.length_toList
    show y.data.toList.length ≤ 100
    omega)
  rw [List.length_map] at this
  have h2 : ls.length * (sep.length + 100) ≤ 20 * 103 := Nat.mul_le_mul hN (by omega)
  omega
theorem below_dn {B : Nat} {w w' : World} (h : Below B w w') (m : Nat) : Below B w (w'.drewN m) := ⟨h.os, h.tape, h.output, h.size, h.block⟩
theorem hex_slice (W : World) (i : Nat) (h : i < 16) : (Instr.slice 9 (.string ⟨#[48, 49, 50, 51, 52, 53, 54, 55, 56, 57, 97, 98, 99, 100, 101, 102]⟩) (some (.int .i64 (i : Int))) (some (.int .i64 ((i : Int) + 1))) none).run Tryz.prog W = .ok (.string ⟨#[hexD i]⟩) W := by
  rw [run_slice_string W 9 _ _ _ _ _ Tryz.underlying9 (by omega) (by omega) (by simp [ByteArray.size]; omega)]
  have e : ∀ i : Fin 16, ({ data := #[48, 49, 50, 51, 52, 53, 54, 55, 56, 57, 97, 98, 99, 100, 101, 102] } : ByteArray).extract ((i.1 : Int)).toNat (((i.1 : Int) + 1)).toNat = ⟨#[hexD i.1]⟩ := by decide
  rw [e ⟨i, h⟩]
theorem below_drew (B : Nat) (W : World) : Below B W W.drew := ⟨rfl, rfl, rfl, Nat.le_refl _, fun _ _ => rfl⟩
theorem boxcell {w : World} {b : Nat} {vs : Array Value} {T : TypeId} (h : w.heap[b]? = some (.cells vs T (0, 0))) (j : Nat) (v : Value) (hj : vs[j]? = some v) : w.cell? ⟨b, j, none⟩ = some v := by
  simp [World.cell?, h, hj]

set_option maxRecDepth 100000 in
set_option maxHeartbeats 4000000 in
theorem ref_any (w : World) (hw : WordsAt w) {eb eo : Nat → Nat} (he : ErrsAt w eb eo) (S : ByteArray) (hS : S.size ≤ 100) (bad : Nat) (hbad : bad ≤ 19) (ls : List ByteArray) (hv : TextsS w V2 ls) (hN : ls.length ≤ 20) (hz : ∀ x ∈ ls, x.size ≤ 100) (h0 : -9223372036854775808 ≤ n) (h1 : n ≤ 9223372036854775807) :
    Calls Tryz.prog 7 #[refV k n bad S V2] w fun e w' => e = .returned (bs (resT k n bad S.data.toList ls)) ∧ Below w.heap.size w w' := by
  have HV := Lib.hid hv
  have HZ := Lib.hid hz
  obtain ⟨R, hR⟩ : ∃ R, R = resT k n bad S.data.toList ls := ⟨_, rfl⟩
  rw [← hR]
  have HR := Lib.hid hR
  clear hv hz hR
  have hbox : Below w.heap.size w (w.alloc (.cells #[.int .i64 k, .int .i64 n, .int .i64 bad, .string S, V2] 37)) := (Below.refl _ _).alloc (Nat.le_refl _) _
  have HB := Lib.hid hbox
  have HW := Lib.hid hw
  have HE := Lib.hid he
  clear hbox hw he
  unfold refV
  go_enter Tryz.func7, Tryz.ntmps7
  go_upto_region 2 with (fail)
  go_cut [18] (fun s18 wx => s18 = .bool (inW k) ∧ wx = w.alloc (.cells #[.int .i64 k, .int .i64 n, .int .i64 bad, .string S, V2] 37))
  case first =>
    by_cases h1 : 1 ≤ k
    · go_wp2_with fail
      go_meet
      exact ⟨by simp [inW, h1], rfl⟩
    · go_wp2_with fail
      go_meet
      exact ⟨by simp [inW]; omega, rfl⟩
  obtain ⟨rfl, rfl⟩ := hcut
  go_upto_if 18 with (fail)
  go_cut [3] (fun s3 wx => s3 = bs (headOf k ++ [32]) ∧ Below w.heap.size w wx ∧ wx.heap[w.heap.size]? = some (.cells #[.int .i64 k, .int .i64 n, .int .i64 bad, .string S, V2] 37 (0, 0)))
  case first =>
    by_cases hk : 1 ≤ k ∧ k ≤ 11
    · obtain ⟨m, rfl⟩ : ∃ m : Nat, k = m := ⟨k.toNat, by omega⟩
      have hm : m < 12 := by omega
      have hd : inW (m : Int) = true := by unfold inW; simpa using hk
      rw [hd]
      have e := head_in _ hk
      have em : ((m : Int)).toNat = m := rfl
      rw [em] at e
      have hwl : (wordsB.getD m []).length ≤ 20 := by
        have : ∀ i : Nat, i < 12 → (wordsB.getD i []).length ≤ 20 := by decide
        exact this m hm
      obtain ⟨Wd, hWd⟩ : ∃ W, W = wordsB.getD m [] := ⟨_, rfl⟩
      rw [← hWd] at e hwl
      have HM := Lib.hid e
      have HD := Lib.hid hWd
      have c15 := words_walk ((w.alloc (.cells #[.int .i64 m, .int .i64 n, .int .i64 bad, .string S, V2] 37)).drew) ((HE.out.kept HB.out).kept ⟨rfl, rfl, rfl, Nat.le_refl _, fun _ _ => rfl⟩) (words_kept (words_kept HW.out HB.out) ⟨rfl, rfl, rfl, Nat.le_refl _, fun _ _ => rfl⟩)
      have hc0 : (w.alloc (.cells #[.int .i64 m, .int .i64 n, .int .i64 bad, .string S, V2] 37)).drew.heap[w.heap.size]? = some (.cells #[.int .i64 m, .int .i64 n, .int .i64 bad, .string S, V2] 37 (0, 0)) := heap_alloc_new w _
      have HC := Lib.hid hc0
      have HBd := Lib.hid (HB.out.trans (below_drew w.heap.size (w.alloc (.cells #[.int .i64 m, .int .i64 n, .int .i64 bad, .string S, V2] 37))))
      obtain ⟨hk1, hk2⟩ := hk
      clear e em hc0 hWd
      go_wp2_with fail
      go_region_with (first
        | (go_at_call 15; refine c15.mono ?_; rintro e w1 ⟨B, o, c, rfl, hB, hcell, hb1⟩; have hc1 : w1.cell? ⟨B, o + m, none⟩ = some (.string ⟨Wd.toArray⟩) := by { rw [hcell m hm, HD.out]; rfl }; have hc2 := kept_obj HC.out hb1; have hc3 := boxcell hc2 0 _ rfl; have HB1 := Lib.hid hb1; have HC2 := Lib.hid hc2; clear hb1 hcell hc2))
      all_goals (try go_wp2_with fail)
      all_goals go_meet
      all_goals exact ⟨by rw [HM.out]; simp [bs, ByteArray.ext_iff], HBd.out.trans (HB1.out.mono HBd.out.size), HC2.out⟩
    · have hd : inW k = false := by unfold inW; simpa using hk
      rw [hd]
      have e := head_out k hk
      have HM := Lib.hid e
      clear e hk
      go_wp2_with fail
      go_meet
      exact ⟨by rw [HM.out]; rfl, HB.out, heap_alloc_new w _⟩
  case rest =>
    obtain ⟨rfl, hb, hcl⟩ := hcut
    have l1 := headOf_len k
    have c0 := boxcell hcl 0 _ rfl
    have c1 := boxcell hcl 1 _ rfl
    have c2 := boxcell hcl 2 _ rfl
    have c3 := boxcell hcl 3 _ rfl
    have c4 := boxcell hcl 4 _ rfl
    have HBC := Lib.hid hb
    clear hb hcl
    have hv := HV.out.kept HBC.out
    have eR : R = (headOf k ++ [32]) ++ tailT k n bad S.data.toList ls := HR.out
    have hHl : (headOf k ++ [32]).length ≤ 21 := by simp; omega
    clear l1
    generalize headOf k ++ [32] = Hd at *
    by_cases hb0 : bad = 0
    · subst hb0
      have eT : tailT k n 0 S.data.toList ls = faredT k n S.data.toList ls := rfl
      rw [eT] at eR
      clear eT
      by_cases hk : k = 1 ∨ k = 4 ∨ k = 6
      · have eT : faredT k n S.data.toList ls = versionB ++ Lib.itoa n := by unfold faredT; rw [if_pos hk]
        rw [eT] at eR
        have ER := Lib.hid eR
        have hf := figures_walk n h0 h1 wc
        have hl := itoa_len n h0 h1
        obtain ⟨T, hT⟩ : ∃ T, T = Lib.itoa n := ⟨_, rfl⟩
        rw [← hT] at hf hl
        have HT := Lib.hid hT
        clear eT eR hT hv
        unfold bs at *
        rcases hk with rfl | rfl | rfl
        all_goals
          go_wp2_with (go_at_call 16; refine hf.mono ?_; rintro e w2 ⟨rfl, hb2⟩; have HB2 := Lib.hid hb2; clear hb2)
          go_ret
          exact ⟨by rw [ER.out, ← HT.out]; simp [bs, versionB, ByteArray.ext_iff], HBC.out.trans (HB2.out.mono HBC.out.size)⟩
      · by_cases h3 : k = 3
        · subst h3
          have eT : faredT 3 n S.data.toList ls = bytesB ++ hexOf S.data.toList := rfl
          rw [eT] at eR
          have ER := Lib.hid eR
          clear eT eR hv hk
          unfold bs at *
          go_wp2_with fail
          go_loopw [3, 6] (fun s i wr => ∃ q m : Nat, q ≤ S.size ∧ i = .int .i64 q ∧ s = .string ⟨(Hd ++ (bytesB ++ hexL (S.data.toList.take q))).toArray⟩ ∧ wr = wc.drewN m) (fun _ i _ => S.size - (intOf i).toNat)
          case atStart => exact ⟨0, 0, Nat.zero_le _, rfl, by simp [hexL, bytesB, ByteArray.ext_iff], rfl⟩
          case round =>
            obtain ⟨q, m, hq, rfl, rfl, rfl⟩ := hrel
            by_cases hlt : q < S.size
            · have hx : S[q].toNat < 256 := S[q].toNat_lt
              have hl1 : (hexL (S.data.toList.take q)).length ≤ 200 := by
                rw [hexL_len, List.length_take]; omega
              have hcl : bytesB.length ≤ 6 := by decide
              generalize hF : hexL (S.data.toList.take q) = F at *
              go_wp2_with fail
              go_quiet (fail)
              rw [World.drewN_drewN]
              generalize m + nq = m1
              clear nq
              generalize hX : S[q].toNat = x at *
              have y1 : (x : Int) / 16 < 16 := by omega
              have y2 : 0 ≤ (x : Int) / 16 := by omega
              have y3 : (x : Int) % 16 < 16 := by omega
              have y4 : 0 ≤ (x : Int) % 16 := by omega
              have y5 : IntKind.i64.wrap ((x : Int) / 16 + 1) = (x : Int) / 16 + 1 := IntWalk.i64_in _ (by omega)
              have y6 : IntKind.i64.wrap ((x : Int) % 16 + 1) = (x : Int) % 16 + 1 := IntWalk.i64_in _ (by omega)
              have s1 : ∀ W : World, (Instr.slice 9 (.string ⟨#[48, 49, 50, 51, 52, 53, 54, 55, 56, 57, 97, 98, 99, 100, 101, 102]⟩) (some (.int .i64 ((x : Int) / 16))) (some (.int .i64 ((x : Int) / 16 + 1))) none).run Tryz.prog W = .ok (.string ⟨#[hexD (x / 16)]⟩) W := fun W => hex_slice W (x / 16) (by omega)
              have s2 : ∀ W : World, (Instr.slice 9 (.string ⟨#[48, 49, 50, 51, 52, 53, 54, 55, 56, 57, 97, 98, 99, 100, 101, 102]⟩) (some (.int .i64 ((x : Int) % 16))) (some (.int .i64 ((x : Int) % 16 + 1))) none).run Tryz.prog W = .ok (.string ⟨#[hexD (x % 16)]⟩) W := fun W => hex_slice W (x % 16) (by omega)
              have HF := Lib.hid hF
              have HX := Lib.hid hX
              clear hF hX
              go_wp2_with fail
              go_quiet (fail)
              rw [World.drewN_drewN]
              generalize m1 + nq = m2
              clear y5 y6 s1 s2 nq
              go_wp2
              go_roundw
              case rel =>
                refine ⟨q + 1, m2, by omega, by go_num, ?_, rfl⟩
                have hn : hexL (S.data.toList.take (q + 1)) = F ++ [hexD (x / 16), hexD (x % 16)] := by
                  rw [List.take_add_one, List.getElem?_eq_getElem (by rw [data_len]; exact hlt)]
                  have e : S.data.toList[q]'(by rw [data_len]; exact hlt) = S[q] := rfl
                  rw [e]
                  simp only [Option.toList_some]
                  rw [hexL_snoc, HF.out, HX.out]
                rw [hn]
                simp [ByteArray.ext_iff]
              case measure => simp [intOf]; omega
            · have : q = S.size := by omega
              subst this
              have ht : S.data.toList.take S.size = S.data.toList := by
                rw [List.take_of_length_le]
                rw [data_len]; exact Nat.le_refl _
              rw [ht]
              have hl2 : (hexL S.data.toList).length ≤ 200 := by
                rw [hexL_len, data_len]; omega
              have hcl : bytesB.length ≤ 6 := by decide
              by_cases hz0 : S.size = 0
              · have hnil : S.data.toList = [] := List.length_eq_zero_iff.1 (by rw [data_len]; exact hz0)
                have hH : R = Hd ++ (bytesB ++ [45]) := by
                  rw [ER.out, hnil]; rfl
                have HH := Lib.hid hH
                rw [hnil]
                have hx0 : hexL [] = [] := rfl
                rw [hx0]
                have d0 : ((S.size : Int) == 0) = true := by rw [hz0]; rfl
                clear hH hnil ht hl2 hz0 hx0
                go_wp2
                go_ret
                exact ⟨by rw [HH.out]; simp [bs, hexL, ByteArray.ext_iff], HBC.out.trans (below_dn (Below.refl _ _) _)⟩
              · have hnn : S.data.toList ≠ [] := by
                  intro h
                  have := data_len S
                  rw [h] at this
                  simp at this
                  omega
                have hH : R = Hd ++ (bytesB ++ hexL S.data.toList) := by
                  rw [ER.out]
                  unfold hexOf
                  rw [if_neg hnn]
                have HH := Lib.hid hH
                have d0 : ((S.size : Int) == 0) = false := by simpa using hz0
                generalize hexL S.data.toList = F at *
                clear hH hnn ht hz0
                go_wp2
                go_ret
                exact ⟨by rw [HH.out]; rfl, HBC.out.trans (below_dn (Below.refl _ _) _)⟩
        · by_cases h5 : k = 5
          · subst h5
            have eT : faredT 5 n S.data.toList ls = changesB ++ Lib.itoa ls.length ++ Lib.joinTail [32, 124, 32] (ls.map (·.data.toList)) := rfl
            rw [eT] at eR
            have ER := Lib.hid eR
            have hjb := joinTail_bound [32, 124, 32] (by decide) ls hN HZ.out
            have hf := figures_walk ls.length (by omega) (by omega) wc
            have hl := itoa_short ls.length (by omega)
            obtain ⟨T, hT⟩ : ∃ T, T = Lib.itoa ls.length := ⟨_, rfl⟩
            rw [← hT] at hf hl
            have HT := Lib.hid hT
            clear eT eR hT hk h3
            by_cases hne : ls = []
            · subst hne
              obtain ⟨A, c, rfl⟩ := texts_len hv
              have KC := Lib.hid (fun (W : World) (h : Below wc.heap.size wc W) => kept_cell c4 h)
              clear hv
              unfold bs at *
              go_wp2_with (go_at_call 16; refine hf.mono ?_; rintro e w2 ⟨rfl, hb2⟩; have HB2 := Lib.hid hb2; have c4' := KC.out w2 hb2; clear hb2)
              refine wp_loop_rounds 1 ?_
              rw [rounds_succ]
              go_wp2
              go_ret
              exact ⟨by rw [ER.out, ← HT.out]; simp [bs, Lib.joinTail, changesB, ByteArray.ext_iff], HBC.out.trans (HB2.out.mono HBC.out.size)⟩
            · obtain ⟨b, o, c, rfl, hlt, hc⟩ := texts_plain hv hne
              have KC := Lib.hid (fun (W : World) (h : Below wc.heap.size wc W) => kept_cell c4 h)
              have HC := Lib.hid hc
              have HN := Lib.hid hne
              clear hc hv hne
              unfold bs at *
              go_wp2_with (go_at_call 16; refine hf.mono ?_; rintro e w2 ⟨rfl, hb2⟩; have HB2 := Lib.hid hb2; have c4' := KC.out w2 hb2; clear hb2)
              go_loop [3, 122] (fun s i => ∃ q : Nat, q ≤ ls.length ∧ i = .int .i64 q ∧ s = .string ⟨(Hd ++ (changesB ++ T ++ Lib.joinTail [32, 124, 32] ((ls.take q).map (·.data.toList)))).toArray⟩) (fun _ i => ls.length - (intOf i).toNat)
              case atStart => exact ⟨0, Nat.zero_le _, rfl, by simp [Lib.joinTail, changesB, ByteArray.ext_iff]⟩
              case round =>
                obtain ⟨q, hq, rfl, rfl⟩ := hrel
                by_cases hlt : q < ls.length
                · have hcell := kept_cell (HC.out q ls[q] (List.getElem?_eq_getElem hlt)) HB2.out
                  have hx := HZ.out ls[q] (List.getElem_mem hlt)
                  have hnext := joinTail_take [32, 124, 32] ls q hlt
                  have hb1 := joinTail_bound [32, 124, 32] (by decide) (ls.take q) (by rw [List.length_take]; omega) (fun x hx => HZ.out x (List.mem_of_mem_take hx))
                  have HNX := Lib.hid hnext
                  generalize ls[q] = x at *
                  generalize Lib.joinTail [32, 124, 32] ((ls.take q).map (·.data.toList)) = F at *
                  have hcl : changesB.length ≤ 8 := by decide
                  clear hnext
                  go_wp2
                  go_round
                  case rel => exact ⟨q + 1, by omega, by go_num, by rw [HNX.out]; simp [ByteArray.ext_iff]⟩
                  case measure => simp [intOf]; omega
                · have : q = ls.length := by omega
                  subst this
                  rw [List.take_length]
                  go_wp2
                  go_ret
                  exact ⟨by rw [ER.out, ← HT.out]; rfl, HBC.out.trans (HB2.out.mono HBC.out.size)⟩
          · have eT : faredT k n S.data.toList ls = doneB := by unfold faredT; rw [if_neg hk, if_neg h3, if_neg h5]
            rw [eT] at eR
            have ER := Lib.hid eR
            simp only [not_or] at hk
            have e1 : (k == 1) = false := by simpa using hk.1
            have e4 : (k == 4) = false := by simpa using hk.2.1
            have e6 : (k == 6) = false := by simpa using hk.2.2
            have e3 : (k == 3) = false := by simpa using h3
            have e5 : (k == 5) = false := by simpa using h5
            clear eT eR hv hk h3 h5
            unfold bs at *
            go_wp2
            go_ret
            exact ⟨by rw [ER.out]; simp [bs, doneB, ByteArray.ext_iff], HBC.out⟩
    · by_cases h19 : bad = 19
      · subst h19
        have eT : tailT k n 19 S.data.toList ls = conflictB ++ Lib.joinTail [32] (ls.map (·.data.toList)) := rfl
        rw [eT] at eR
        have ER := Lib.hid eR
        have hjb := joinTail_bound [32] (by decide) ls hN HZ.out
        clear eT hb0 eR
        by_cases hne : ls = []
        · subst hne
          obtain ⟨A, c, rfl⟩ := texts_len hv
          clear hv
          unfold bs at *
          go_wp2_with fail
          refine wp_loop_rounds 1 ?_
          rw [rounds_succ]
          go_wp2
          go_ret
          exact ⟨by rw [ER.out]; simp [bs, Lib.joinTail, conflictB, ByteArray.ext_iff], HBC.out⟩
        · obtain ⟨b, o, c, rfl, hlt, hc⟩ := texts_plain hv hne
          have HC := Lib.hid hc
          have HN := Lib.hid hne
          clear hc hv hne
          unfold bs at *
          go_wp2_with fail
          go_loop [3, 33] (fun s i => ∃ q : Nat, q ≤ ls.length ∧ i = .int .i64 q ∧ s = .string ⟨(Hd ++ (conflictB ++ Lib.joinTail [32] ((ls.take q).map (·.data.toList)))).toArray⟩) (fun _ i => ls.length - (intOf i).toNat)
          case atStart => exact ⟨0, Nat.zero_le _, rfl, by simp [Lib.joinTail, conflictB, ByteArray.ext_iff]⟩
          case round =>
            obtain ⟨q, hq, rfl, rfl⟩ := hrel
            by_cases hlt : q < ls.length
            · have hcell := HC.out q ls[q] (List.getElem?_eq_getElem hlt)
              have hx := HZ.out ls[q] (List.getElem_mem hlt)
              have hnext := joinTail_take [32] ls q hlt
              have hb1 := joinTail_bound [32] (by decide) (ls.take q) (by rw [List.length_take]; omega) (fun x hx => HZ.out x (List.mem_of_mem_take hx))
              have HNX := Lib.hid hnext
              generalize ls[q] = x at *
              generalize Lib.joinTail [32] ((ls.take q).map (·.data.toList)) = F at *
              have hcl : conflictB.length ≤ 8 := by decide
              clear hnext
              go_wp2
              go_round
              case rel => exact ⟨q + 1, by omega, by go_num, by rw [HNX.out]; simp [ByteArray.ext_iff]⟩
              case measure => simp [intOf]; omega
            · have : q = ls.length := by omega
              subst this
              rw [List.take_length]
              go_wp2
              go_ret
              exact ⟨by rw [ER.out]; rfl, HBC.out⟩
      · have eT : tailT k n bad S.data.toList ls = errorB ++ Lib.itoa bad := by unfold tailT; rw [if_neg hb0, if_neg h19]
        rw [eT] at eR
        have ER := Lib.hid eR
        have hf := figures_walk bad (by omega) (by omega) wc
        have hl := itoa_short bad (by omega)
        have d19 : ((bad : Int) == 19) = false := by simpa using (by omega : ¬ ((bad : Int) = 19))
        have dpos : 0 < bad := by omega
        obtain ⟨T, hT⟩ : ∃ T, T = Lib.itoa bad := ⟨_, rfl⟩
        rw [← hT] at hf hl
        have HT := Lib.hid hT
        clear eT eR hT hv hb0 h19
        unfold bs at *
        go_wp2_with (go_at_call 16; refine hf.mono ?_; rintro e w2 ⟨rfl, hb2⟩; have HB2 := Lib.hid hb2; clear hb2)
        go_ret
        exact ⟨by rw [ER.out, ← HT.out]; simp [bs, errorB, ByteArray.ext_iff], HBC.out.trans (HB2.out.mono HBC.out.size)⟩
end Go.Proofs.YtnamakmnlagpgaaGreatDoor
