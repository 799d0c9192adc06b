import Derived.Test.YtnamakmnlagpgaaGreatDoorList
import Derived.Test.YtnamakmnlagpgaaGreatDoorAl
set_option linter.unusedVariables false
set_option linter.unusedSimpArgs false
namespace Go.Proofs.YtnamakmnlagpgaaGreatDoor
open Go Go.RowKit

noncomputable def It.row (t : It) : List Value := [.int .i64 t.k, .int .i64 t.n, .int .i64 t.x, .slice t.A1 t.n1 t.c1, .slice t.A2 t.n2 t.c2]

set_option maxRecDepth 100000 in
set_option maxHeartbeats 8000000 in
theorem law_walk (g o m c : Nat) (its : List It) (hm : its.length = m) (hm63 : m ≤ 9223372036854775807) (w : World) (hw : WordsAt w) {eb eo : Nat → Nat} (he : ErrsAt w eb eo) (ht : Tab w) (hg : g < w.heap.size)
    (hc : ∀ (i : Nat) t, its[i]? = some t → t.Raw w ∧ ∀ (j : Nat) v, t.row[j]? = some v → w.cell? ⟨g, o + 5 * i + j, none⟩ = some v) :
    Calls Tryz.prog 3 #[.slice (some ⟨g, o, none⟩) m c] w fun e w' => e = .returned (.bool true) ∧ Below w.heap.size w w' := by
  have c4 := alive_walk w he hw
  have HC := Lib.hid hc
  have HW := Lib.hid hw
  have HE := Lib.hid he
  have HT := Lib.hid ht
  clear hc hw he ht
  by_cases h20 : 20 < m
  · go_enter Tryz.func3, Tryz.ntmps3
    go_wp2_with (go_at_call 4; refine c4.mono ?_; rintro e w1 ⟨rfl, hb1⟩)
    go_ret
    exact ⟨rfl, hb1⟩
  · go_enter Tryz.func3, Tryz.ntmps3
    go_wp2_with (go_at_call 4; refine c4.mono ?_; rintro e w1 ⟨rfl, hb1⟩; have B1 := Lib.hid hb1; clear hb1)
    clear c4
    go_loopw [3, 4, 18] (fun vW vA i wr => ∃ q : Nat, q ≤ m ∧ i = .int .i64 q ∧ (∃ gA cA, vA = .slice (some ⟨gA, 0, none⟩) q cA ∧ wr.ownsRow w.heap.size 33 5 vA q ((its.take q).flatMap (It.cells eb eo))) ∧
      wr.ownsRow w.heap.size 9 1 vW q ((its.take q).map fun t => Value.string t.line) ∧ (∀ t ∈ its.take q, t.Ok) ∧ Below w.heap.size w wr) (fun _ _ i _ => m - (intOf i).toNat)
    case atStart =>
      have l1 : (w1.alloc (.cells #[] 9)).heap.size = w1.heap.size + 1 := by simp
      have hA0 := World.ownsRow_lit (base := w.heap.size) (e := 33) (size := 5) (w1.alloc (.cells #[] 9)) #[] 0 (by have := B1.out.size; simp; omega) (by decide) (by rfl)
      rw [l1] at hA0
      have hW0 := (World.ownsRow_lit (base := w.heap.size) (e := 9) (size := 1) w1 #[] 0 B1.out.size (by decide) (by rfl)).alloc (.cells #[] 33)
      exact ⟨0, Nat.zero_le _, rfl, ⟨_, _, rfl, hA0⟩, hW0, fun t h => by simp at h, (B1.out.alloc B1.out.size _).alloc (by have := B1.out.size; simp; omega) _⟩
    case round =>
      obtain ⟨q, hq, rfl, ⟨gA, cA, rfl, hA⟩, hW, hok, hb⟩ := hrel
      by_cases hlt : q < m
      · have hl : q < its.length := by omega
        obtain ⟨hraw0, hcs⟩ := HC.out q its[q] (List.getElem?_eq_getElem hl)
        have hkc : ∀ (j : Nat) v, its[q].row[j]? = some v → wr.cell? ⟨g, o + 5 * q + j, none⟩ = some v := fun j v hj => by
          rw [← hcs j v hj]
          simp only [World.cell?, hb.block g hg]
        have hnW : (its.take (q + 1)).map (fun t => Value.string t.line) = (its.take q).map (fun t => Value.string t.line) ++ [Value.string its[q].line] := by
          rw [List.take_add_one, List.getElem?_eq_getElem hl, List.map_append]
          rfl
        have hnA : (its.take (q + 1)).flatMap (It.cells eb eo) = (its.take q).flatMap (It.cells eb eo) ++ its[q].cells eb eo := by
          rw [List.take_add_one, List.getElem?_eq_getElem hl, List.flatMap_append]
          simp
        have hnO : its[q].Ok → ∀ t ∈ its.take (q + 1), t.Ok := fun h t ht => by
          rw [List.take_add_one, List.getElem?_eq_getElem hl] at ht
          rcases List.mem_append.1 ht with ht | ht
          · exact hok t ht
          · simp at ht; rw [ht]; exact h
        have hraw := hraw0
        have d0 := hkc 0 _ rfl
        have d1 := hkc 1 _ rfl
        have d2 := hkc 2 _ rfl
        have d3 := hkc 3 _ rfl
        have d4 := hkc 4 _ rfl
        have eq5 : o + 5 * q = o + q * 5 := by omega
        rw [eq5] at d0 d1 d2 d3 d4
        simp only [Nat.add_zero] at d0
        have HNW := Lib.hid hnW
        have HNA := Lib.hid hnA
        have HNO := Lib.hid hnO
        have HA := Lib.hid hA
        have HWo := Lib.hid hW
        have HB := Lib.hid hb
        have HR := Lib.hid hraw
        clear hnW hnA hnO hA hW hok hkc hcs eq5 hraw0
        generalize its[q] = t at *
        have hn1 := bytesS_len hraw.hb
        have b0 : Below wr.heap.size wr (wr.alloc (.cells #[.int .i64 t.k, .int .i64 t.n, .int .i64 t.x, .slice t.A1 t.n1 t.c1, .slice t.A2 t.n2 t.c2] 28)) := (Below.refl _ _).alloc (Nat.le_refl _) _
        have c5 := long_any 20 100 (by decide) (by decide) ((hraw.kept (hb.trans (b0.mono hb.size))).hv) hraw.hl hraw.hz
        have B0 := Lib.hid b0
        have hn1' : (t.n1 : Int) = (t.b.length : Int) := by rw [hn1]
        have HN1 := Lib.hid hn1
        clear hraw b0 hb hn1'
        by_cases h100 : 100 < t.n1
        · clear c5 hn1
          go_wp2_with fail
          go_ret
          exact ⟨rfl, HB.out.trans (B0.out.mono HB.out.size)⟩
        · clear hn1
          obtain ⟨LB, hLB⟩ : ∃ LB, LB = longB 20 100 t.ls := ⟨_, rfl⟩
          rw [← hLB] at c5
          have HLB := Lib.hid hLB
          clear hLB
          cases LB with
          | true =>
            go_wp2_with (go_at_call 5; refine c5.mono ?_; rintro e w' ⟨rfl, rfl⟩)
            go_ret
            exact ⟨rfl, HB.out.trans (B0.out.mono HB.out.size)⟩
          | false =>
            have hOk : t.Ok := ⟨by rw [← HN1.out]; omega, HLB.out.symm⟩
            rcases errOf_form eb eo t.x with hEx | ⟨p, hEx⟩
            · obtain ⟨Wa, hWa⟩ : ∃ W, W = wr.alloc (.cells #[.int .i64 t.k, .int .i64 t.n, .int .i64 t.x, .slice t.A1 t.n1 t.c1, .slice t.A2 t.n2 t.c2] 28) := ⟨_, rfl⟩
              have ba := HB.out.trans (B0.out.mono HB.out.size)
              rw [← hWa] at ba
              have c6 := make_walk t.k t.n t.x t.A1 t.A2 t.n1 t.c1 t.n2 t.c2 Wa (words_kept HW.out ba) (HE.out.kept ba)
              rw [hEx, hWa] at c6
              rw [hWa] at ba
              have BA := Lib.hid ba
              have HEx := Lib.hid hEx
              unfold rowV at c6
              unfold resV at c6
              -- what the later calls answer, in whatever world behind the start
              have c8 : ∀ W, Below w.heap.size w W → Calls Tryz.prog 8 #[.agg #[.int .i64 t.k, .int .i64 t.n, .nilIface, .slice t.A1 t.n1 t.c1, .slice t.A2 t.n2 t.c2]] W fun e w' => e = .returned (refV t.k t.n (badN t.x : Nat) ⟨t.b.toArray⟩ (.slice t.A2 t.n2 t.c2)) ∧ Below W.heap.size W w' := fun W hW => by
                have h := of_walk t.k t.n t.x t.A1 t.A2 t.n1 t.c1 t.n2 t.c2 W (words_kept HW.out hW) (HE.out.kept hW) t.b (HR.out.kept hW).hb
                rw [HEx.out] at h
                exact h
              have c7 : ∀ W, Below w.heap.size w W → Calls Tryz.prog 7 #[refV t.k t.n (badN t.x : Nat) ⟨t.b.toArray⟩ (.slice t.A2 t.n2 t.c2)] W fun e w' => e = .returned (.string t.line) ∧ Below W.heap.size W w' := fun W hW => by
                have gd := (HR.out.good hOk).kept hW
                exact ref_any t.k t.n _ W (words_kept HW.out hW) (HE.out.kept hW) ⟨t.b.toArray⟩ gd.hm (badN t.x) (by unfold badN; split <;> omega) t.ls gd.hv gd.hN gd.hz gd.n0 gd.n1'
              have c9 : ∀ W, Below w.heap.size w W → Calls Tryz.prog 9 #[.agg #[.int .i64 t.k, .int .i64 t.n, .nilIface, .slice t.A1 t.n1 t.c1, .slice t.A2 t.n2 t.c2]] W fun e w' => e = .returned (.string t.line) ∧ Below W.heap.size W w' := fun W hW => by
                have gd := (HR.out.good hOk).kept hW
                have h := result_any t.k t.n _ _ W (words_kept HW.out hW) (HE.out.kept hW) t.x t.b gd.hb gd.hm t.ls gd.hv gd.hN gd.hz gd.k0 gd.k1 gd.n0 gd.n1' (tab_kept HT.out hW)
                rw [HEx.out] at h
                exact h
              have C8 := Lib.hid c8
              have C7 := Lib.hid c7
              have C9 := Lib.hid c9
              clear c8 c7 c9 hEx ba hWa
              generalize refV t.k t.n (badN t.x : Nat) ⟨t.b.toArray⟩ (.slice t.A2 t.n2 t.c2) = RV at *
              go_wp2_with (first
                | (go_at_call 5; refine c5.mono ?_; rintro e w' ⟨rfl, rfl⟩)
                | (go_at_call 6; refine c6.mono ?_; rintro e w2 ⟨rfl, hb2⟩; have BS := Lib.hid (Nat.le_trans B0.out.size hb2.size); have B2 := Lib.hid (BA.out.trans (hb2.mono BA.out.size)); have D2 := Lib.hid ((B0.out.trans (hb2.mono B0.out.size)).alloc (B0.out.trans (hb2.mono B0.out.size)).size (.cells #[.int .i64 t.k, .int .i64 t.n, .nilIface, .slice t.A1 t.n1 t.c1, .slice t.A2 t.n2 t.c2] 33)); clear hb2)
                | (at_builtin; refine wpList_append_res rfl (.tmp 33) (.tmp 35) rfl w.heap.size _ q _ (by rfl) (owns_below HA.out D2.out) (.int .i64 t.k) (.int .i64 t.n) (.nilIface) (.slice t.A1 t.n1 t.c1) (.slice t.A2 t.n2 t.c2) ⟨rfl, rfl, rfl, rfl, rfl⟩ (w2.heap.size + 1) (by simp) (by rfl) (by omega) (by have := B2.out.size; simp; omega) ?_; intro gB cB w3 hown3 hg3; have r3 : w3.heap[w2.heap.size]? = some (.cells #[.int .i64 t.k, .int .i64 t.n, .nilIface, .slice t.A1 t.n1 t.c1, .slice t.A2 t.n2 t.c2] 33 (0, 0)) := (by rw [hg3.block w2.heap.size (by simp; omega) (by have := (HA.out.lt gA rfl).2; have := D2.out.size; have := B2.out.size; have := BS.out; simp [Value.ownBlock]; omega)]; exact kept_obj (heap_alloc_new w2 _) ((Below.refl _ _).alloc (Nat.le_refl _) _)); have x0 := boxcell r3 0 _ rfl; have x1 := boxcell r3 1 _ rfl; have x2 := boxcell r3 2 _ rfl; have x3 := boxcell r3 3 _ rfl; have x4 := boxcell r3 4 _ rfl; have R3 := Lib.hid r3; have O3 := Lib.hid hown3; have G3 := Lib.hid hg3; have B3 := Lib.hid (((B2.out.alloc B2.out.size (.cells #[.int .i64 t.k, .int .i64 t.n, .nilIface, .slice t.A1 t.n1 t.c1, .slice t.A2 t.n2 t.c2] 33)).alloc (by have := B2.out.size; simp; omega) (.cells #[.int .i64 t.k, .int .i64 t.n, .nilIface, .slice t.A1 t.n1 t.c1, .slice t.A2 t.n2 t.c2] 33)).grown hg3 (by have := B2.out.size; simp; omega) (fun k hk => (HA.out.lt k hk).1)); clear r3 hown3 hg3)
                | (go_at_call 8; refine (C8.out w3 B3.out).mono ?_; rintro e w4 ⟨rfl, hb4⟩; have B4 := Lib.hid (B3.out.trans (hb4.mono B3.out.size)); have R4 := Lib.hid (kept_obj R3.out hb4); have K4 := Lib.hid hb4; clear hb4)
                | (go_at_call 7; refine (C7.out w4 B4.out).mono ?_; rintro e w5 ⟨rfl, hb5⟩; have B5 := Lib.hid (B4.out.trans (hb5.mono B4.out.size)); have r5 := kept_obj R4.out hb5; have y0 := boxcell r5 0 _ rfl; have y1 := boxcell r5 1 _ rfl; have y2 := boxcell r5 2 _ rfl; have y3 := boxcell r5 3 _ rfl; have y4 := boxcell r5 4 _ rfl; have K5 := Lib.hid (K4.out.trans (hb5.mono K4.out.size)); clear hb5 r5)
                | (go_at_call 9; refine (C9.out w5 B5.out).mono ?_; rintro e w6 ⟨rfl, hb6⟩; have B6 := Lib.hid (B5.out.trans (hb6.mono B5.out.size)); have K6 := Lib.hid (K5.out.trans (hb6.mono K5.out.size)); clear hb6)
                | (at_builtin; refine wpList_append_one rfl (.tmp 44) (.tmp 46) rfl w.heap.size _ q _ (by rfl) (owns_below (((owns_below HWo.out D2.out).alloc _).kept G3.out (owns_apart HWo.out HA.out (by decide))) K6.out) t.line (by rfl) (by omega) B6.out.size ?_; intro vN w7 hown7 hg7; have O7 := Lib.hid hown7; have G7 := Lib.hid hg7; clear hown7 hg7))
              go_roundw
              case rel =>
                have o6 := owns_below (((owns_below HWo.out D2.out).alloc _).kept G3.out (owns_apart HWo.out HA.out (by decide))) K6.out
                have a7 := ((owns_below O3.out K6.out).alloc (.cells #[.string t.line] 9)).kept G7.out (owns_apart (owns_below O3.out K6.out) o6 (by decide))
                refine ⟨q + 1, by omega, by go_num, ⟨_, _, rfl, ?_⟩, by rw [HNW.out]; exact O7.out, HNO.out hOk, ?_⟩
                · rw [HNA.out]
                  unfold It.cells
                  rw [HEx.out]
                  exact a7
                · exact (B6.out.alloc B6.out.size _).grown G7.out (by have := B6.out.size; simp; omega) (fun k hk => (HWo.out.lt k hk).1)
              case measure => simp [intOf]; omega
            · obtain ⟨Wa, hWa⟩ : ∃ W, W = wr.alloc (.cells #[.int .i64 t.k, .int .i64 t.n, .int .i64 t.x, .slice t.A1 t.n1 t.c1, .slice t.A2 t.n2 t.c2] 28) := ⟨_, rfl⟩
              have ba := HB.out.trans (B0.out.mono HB.out.size)
              rw [← hWa] at ba
              have c6 := make_walk t.k t.n t.x t.A1 t.A2 t.n1 t.c1 t.n2 t.c2 Wa (words_kept HW.out ba) (HE.out.kept ba)
              rw [hEx, hWa] at c6
              rw [hWa] at ba
              have BA := Lib.hid ba
              have HEx := Lib.hid hEx
              unfold rowV at c6
              unfold resV at c6
              -- what the later calls answer, in whatever world behind the start
              have c8 : ∀ W, Below w.heap.size w W → Calls Tryz.prog 8 #[.agg #[.int .i64 t.k, .int .i64 t.n, .iface 792 p, .slice t.A1 t.n1 t.c1, .slice t.A2 t.n2 t.c2]] W fun e w' => e = .returned (refV t.k t.n (badN t.x : Nat) ⟨t.b.toArray⟩ (.slice t.A2 t.n2 t.c2)) ∧ Below W.heap.size W w' := fun W hW => by
                have h := of_walk t.k t.n t.x t.A1 t.A2 t.n1 t.c1 t.n2 t.c2 W (words_kept HW.out hW) (HE.out.kept hW) t.b (HR.out.kept hW).hb
                rw [HEx.out] at h
                exact h
              have c7 : ∀ W, Below w.heap.size w W → Calls Tryz.prog 7 #[refV t.k t.n (badN t.x : Nat) ⟨t.b.toArray⟩ (.slice t.A2 t.n2 t.c2)] W fun e w' => e = .returned (.string t.line) ∧ Below W.heap.size W w' := fun W hW => by
                have gd := (HR.out.good hOk).kept hW
                exact ref_any t.k t.n _ W (words_kept HW.out hW) (HE.out.kept hW) ⟨t.b.toArray⟩ gd.hm (badN t.x) (by unfold badN; split <;> omega) t.ls gd.hv gd.hN gd.hz gd.n0 gd.n1'
              have c9 : ∀ W, Below w.heap.size w W → Calls Tryz.prog 9 #[.agg #[.int .i64 t.k, .int .i64 t.n, .iface 792 p, .slice t.A1 t.n1 t.c1, .slice t.A2 t.n2 t.c2]] W fun e w' => e = .returned (.string t.line) ∧ Below W.heap.size W w' := fun W hW => by
                have gd := (HR.out.good hOk).kept hW
                have h := result_any t.k t.n _ _ W (words_kept HW.out hW) (HE.out.kept hW) t.x t.b gd.hb gd.hm t.ls gd.hv gd.hN gd.hz gd.k0 gd.k1 gd.n0 gd.n1' (tab_kept HT.out hW)
                rw [HEx.out] at h
                exact h
              have C8 := Lib.hid c8
              have C7 := Lib.hid c7
              have C9 := Lib.hid c9
              clear c8 c7 c9 hEx ba hWa
              generalize refV t.k t.n (badN t.x : Nat) ⟨t.b.toArray⟩ (.slice t.A2 t.n2 t.c2) = RV at *
              go_wp2_with (first
                | (go_at_call 5; refine c5.mono ?_; rintro e w' ⟨rfl, rfl⟩)
                | (go_at_call 6; refine c6.mono ?_; rintro e w2 ⟨rfl, hb2⟩; have BS := Lib.hid (Nat.le_trans B0.out.size hb2.size); have B2 := Lib.hid (BA.out.trans (hb2.mono BA.out.size)); have D2 := Lib.hid ((B0.out.trans (hb2.mono B0.out.size)).alloc (B0.out.trans (hb2.mono B0.out.size)).size (.cells #[.int .i64 t.k, .int .i64 t.n, .iface 792 p, .slice t.A1 t.n1 t.c1, .slice t.A2 t.n2 t.c2] 33)); clear hb2)
                | (at_builtin; refine wpList_append_res rfl (.tmp 33) (.tmp 35) rfl w.heap.size _ q _ (by rfl) (owns_below HA.out D2.out) (.int .i64 t.k) (.int .i64 t.n) (.iface 792 p) (.slice t.A1 t.n1 t.c1) (.slice t.A2 t.n2 t.c2) ⟨rfl, rfl, rfl, rfl, rfl⟩ (w2.heap.size + 1) (by simp) (by rfl) (by omega) (by have := B2.out.size; simp; omega) ?_; intro gB cB w3 hown3 hg3; have r3 : w3.heap[w2.heap.size]? = some (.cells #[.int .i64 t.k, .int .i64 t.n, .iface 792 p, .slice t.A1 t.n1 t.c1, .slice t.A2 t.n2 t.c2] 33 (0, 0)) := (by rw [hg3.block w2.heap.size (by simp; omega) (by have := (HA.out.lt gA rfl).2; have := D2.out.size; have := B2.out.size; have := BS.out; simp [Value.ownBlock]; omega)]; exact kept_obj (heap_alloc_new w2 _) ((Below.refl _ _).alloc (Nat.le_refl _) _)); have x0 := boxcell r3 0 _ rfl; have x1 := boxcell r3 1 _ rfl; have x2 := boxcell r3 2 _ rfl; have x3 := boxcell r3 3 _ rfl; have x4 := boxcell r3 4 _ rfl; have R3 := Lib.hid r3; have O3 := Lib.hid hown3; have G3 := Lib.hid hg3; have B3 := Lib.hid (((B2.out.alloc B2.out.size (.cells #[.int .i64 t.k, .int .i64 t.n, .iface 792 p, .slice t.A1 t.n1 t.c1, .slice t.A2 t.n2 t.c2] 33)).alloc (by have := B2.out.size; simp; omega) (.cells #[.int .i64 t.k, .int .i64 t.n, .iface 792 p, .slice t.A1 t.n1 t.c1, .slice t.A2 t.n2 t.c2] 33)).grown hg3 (by have := B2.out.size; simp; omega) (fun k hk => (HA.out.lt k hk).1)); clear r3 hown3 hg3)
                | (go_at_call 8; refine (C8.out w3 B3.out).mono ?_; rintro e w4 ⟨rfl, hb4⟩; have B4 := Lib.hid (B3.out.trans (hb4.mono B3.out.size)); have R4 := Lib.hid (kept_obj R3.out hb4); have K4 := Lib.hid hb4; clear hb4)
                | (go_at_call 7; refine (C7.out w4 B4.out).mono ?_; rintro e w5 ⟨rfl, hb5⟩; have B5 := Lib.hid (B4.out.trans (hb5.mono B4.out.size)); have r5 := kept_obj R4.out hb5; have y0 := boxcell r5 0 _ rfl; have y1 := boxcell r5 1 _ rfl; have y2 := boxcell r5 2 _ rfl; have y3 := boxcell r5 3 _ rfl; have y4 := boxcell r5 4 _ rfl; have K5 := Lib.hid (K4.out.trans (hb5.mono K4.out.size)); clear hb5 r5)
                | (go_at_call 9; refine (C9.out w5 B5.out).mono ?_; rintro e w6 ⟨rfl, hb6⟩; have B6 := Lib.hid (B5.out.trans (hb6.mono B5.out.size)); have K6 := Lib.hid (K5.out.trans (hb6.mono K5.out.size)); clear hb6)
                | (at_builtin; refine wpList_append_one rfl (.tmp 44) (.tmp 46) rfl w.heap.size _ q _ (by rfl) (owns_below (((owns_below HWo.out D2.out).alloc _).kept G3.out (owns_apart HWo.out HA.out (by decide))) K6.out) t.line (by rfl) (by omega) B6.out.size ?_; intro vN w7 hown7 hg7; have O7 := Lib.hid hown7; have G7 := Lib.hid hg7; clear hown7 hg7))
              go_roundw
              case rel =>
                have o6 := owns_below (((owns_below HWo.out D2.out).alloc _).kept G3.out (owns_apart HWo.out HA.out (by decide))) K6.out
                have a7 := ((owns_below O3.out K6.out).alloc (.cells #[.string t.line] 9)).kept G7.out (owns_apart (owns_below O3.out K6.out) o6 (by decide))
                refine ⟨q + 1, by omega, by go_num, ⟨_, _, rfl, ?_⟩, by rw [HNW.out]; exact O7.out, HNO.out hOk, ?_⟩
                · rw [HNA.out]
                  unfold It.cells
                  rw [HEx.out]
                  exact a7
                · exact (B6.out.alloc B6.out.size _).grown G7.out (by have := B6.out.size; simp; omega) (fun k hk => (HWo.out.lt k hk).1)
              case measure => simp [intOf]; omega
      · have : q = m := by omega
        subst this
        have htk : its.take q = its := by rw [← hm]; exact List.take_length
        rw [htk] at hA hW hok
        have hgA := hA.lt gA rfl
        have hcap := hA
        have c11 := results_walk gA q cA its hm (by omega) wr (words_kept HW.out hb) (HE.out.kept hb) (tab_kept HT.out hb) hgA.2 (fun i t hi => by
          have hr := (HC.out i t hi).1
          refine ⟨(hr.good (hok t (List.mem_of_getElem? hi))).kept hb, fun j v hj => ?_⟩
          have hlt5 : 5 * i + j < q * 5 := by
            have h1 := (List.getElem?_eq_some_iff.1 hi).1
            have h2 : j < 5 := (List.getElem?_eq_some_iff.1 hj).1
            omega
          rw [hA.cellAt _ hlt5]
          exact flat5 its i j t v hi hj)
        have HWo := Lib.hid hW
        have HB := Lib.hid hb
        clear hcap hW hb hA hok hgA
        go_wp2_with (first
          | (go_at_call 11; refine c11.mono ?_; rintro e w2 ⟨v, rfl, hv2, hb2⟩; have HV := Lib.hid hv2; have B2 := Lib.hid hb2; clear hv2 hb2)
          | (go_at_call 10; refine (same_any (n := q) (xs := its.map It.line) (by simp [hm]) (by omega) (by rw [List.map_map]; exact HV.out) (by rw [List.map_map]; exact owns_below HWo.out B2.out)).mono ?_; rintro e w3 ⟨rfl, mm, rfl⟩))
        go_ret
        exact ⟨rfl, below_dn (HB.out.trans (B2.out.mono HB.out.size)) _⟩
end Go.Proofs.YtnamakmnlagpgaaGreatDoor

namespace Go.Proofs.YtnamakmnlagpgaaGreatDoor
open Go Go.RowKit

set_option maxRecDepth 100000 in
set_option maxHeartbeats 8000000 in
theorem law0_walk (A : Option Addr) (c : Nat) (w : World) (hw : WordsAt w) {eb eo : Nat → Nat} (he : ErrsAt w eb eo) (ht : Tab w) :
    Calls Tryz.prog 3 #[.slice A 0 c] w fun e w' => e = .returned (.bool true) ∧ Below w.heap.size w w' := by
  have c4 := alive_walk w he hw
  have HW := Lib.hid hw
  have HE := Lib.hid he
  have HT := Lib.hid ht
  clear hw he ht
  go_enter Tryz.func3, Tryz.ntmps3
  go_wp2_with (go_at_call 4; refine c4.mono ?_; rintro e w1 ⟨rfl, hb1⟩; have B1 := Lib.hid hb1; clear hb1)
  clear c4
  refine wp_loop_rounds 1 ?_
  rw [rounds_succ]
  have l1 : (w1.alloc (.cells #[] 9)).heap.size = w1.heap.size + 1 := by simp
  have hA0 := World.ownsRow_lit (base := w.heap.size) (e := 33) (size := 5) (w1.alloc (.cells #[] 9)) #[] 0 (by have := B1.out.size; simp; omega) (by decide) (by rfl)
  rw [l1] at hA0
  have hW0 := (World.ownsRow_lit (base := w.heap.size) (e := 9) (size := 1) w1 #[] 0 B1.out.size (by decide) (by rfl)).alloc (.cells #[] 33)
  have hb := (B1.out.alloc B1.out.size (.cells #[] 9)).alloc (by have := B1.out.size; simp; omega) (.cells #[] 33)
  have c11 := results_walk (w1.heap.size + 1) 0 0 [] rfl (by omega) _ (words_kept HW.out hb) (HE.out.kept hb) (tab_kept HT.out hb) (by simp) (fun i t hi => by simp at hi)
  have HWo := Lib.hid hW0
  have HB := Lib.hid hb
  clear hA0 hW0 hb l1
  go_wp2_with (first
    | (go_at_call 11; refine c11.mono ?_; rintro e w2 ⟨v, rfl, hv2, hb2⟩; have HV := Lib.hid hv2; have B2 := Lib.hid hb2; clear hv2 hb2)
    | (go_at_call 10; refine (same_any (n := 0) (xs := []) (by rfl) (by omega) HV.out (owns_below HWo.out B2.out)).mono ?_; rintro e w3 ⟨rfl, mm, rfl⟩))
  go_ret
  exact ⟨rfl, below_dn (HB.out.trans (B2.out.mono HB.out.size)) _⟩
end Go.Proofs.YtnamakmnlagpgaaGreatDoor
