import Derived.Test.YtnjpoodfaendkaaGreatDoorTab0
import Derived.Test.YtnjpoodfaendkaaGreatDoorTab2
import Derived.Test.YtnjpoodfaendkaaGreatDoorTab4
import Derived.Test.YtnjpoodfaendkaaGreatDoorTab6
import Derived.Test.YtnjpoodfaendkaaGreatDoorAx8
set_option linter.unusedVariables false
set_option linter.unusedSimpArgs false
set_option linter.unusedVariables false
namespace Go.Proofs.YtnjpoodfaendkaaGreatDoor
open Go Go.AX

noncomputable def allLed : List (List Nat) := led0 ++ led1 ++ led2 ++ led3 ++ led4 ++ led5 ++ led6 ++ led7
noncomputable def allNam : List (List Nat) := nam0 ++ nam1 ++ nam2 ++ nam3 ++ nam4 ++ nam5 ++ nam6 ++ nam7

theorem sizeF : Tryz.prog.funcs.size = 813 := by kernel_rfl
theorem led_all : (List.range 813).map ledBy = allLed := by
  have e : List.range 813 = List.range' 0 102 ++ List.range' 102 102 ++ List.range' 204 102 ++ List.range' 306 102 ++ List.range' 408 102 ++ List.range' 510 102 ++ List.range' 612 102 ++ List.range' 714 99 := by kernel_rfl
  rw [e]
  simp only [List.map_append, led0_eq, led1_eq, led2_eq, led3_eq, led4_eq, led5_eq, led6_eq, led7_eq, allLed]
theorem nam_all : (List.range 813).map namesOf = allNam := by
  have e : List.range 813 = List.range' 0 102 ++ List.range' 102 102 ++ List.range' 204 102 ++ List.range' 306 102 ++ List.range' 408 102 ++ List.range' 510 102 ++ List.range' 612 102 ++ List.range' 714 99 := by kernel_rfl
  rw [e]
  simp only [List.map_append, nam0_eq, nam1_eq, nam2_eq, nam3_eq, nam4_eq, nam5_eq, nam6_eq, nam7_eq, allNam]

theorem out_of {i : Nat} (h : 813 ≤ i) : Tryz.prog.funcs[i]? = none := Array.getElem?_eq_none (by rw [sizeF]; exact h)
theorem led_at (i : Nat) : ledBy i = allLed.getD i [] := by
  rw [← led_all]
  by_cases h : i < 813
  · simp [List.getD, h]
  · have : ledBy i = [] := by unfold ledBy; rw [out_of (by omega)]; rfl
    rw [this]
    simp [List.getD, h]
theorem nam_at (i : Nat) : namesOf i = allNam.getD i [] := by
  rw [← nam_all]
  by_cases h : i < 813
  · simp [List.getD, h]
  · have : namesOf i = [] := by unfold namesOf; rw [out_of (by omega)]; rfl
    rw [this]
    simp [List.getD, h]

theorem goes_none (i : Nat) : (Tryz.prog.funcs[i]?).any Func.goes = false := by
  have key : ∀ (a n : Nat), ((List.range' a n).all fun i => !((Tryz.prog.funcs[i]?).any Func.goes)) = true → a ≤ i → i < a + n → (Tryz.prog.funcs[i]?).any Func.goes = false := fun a n h h1 h2 => by
    have := List.all_eq_true.1 h i (List.mem_range'_1.2 ⟨h1, h2⟩)
    simpa using this
  rcases Nat.lt_or_ge i 102 with h | h
  · exact key 0 102 goes0 (Nat.zero_le _) (by omega)
  rcases Nat.lt_or_ge i 204 with h1 | h1
  · exact key 102 102 goes1 h (by omega)
  rcases Nat.lt_or_ge i 306 with h2 | h2
  · exact key 204 102 goes2 h1 (by omega)
  rcases Nat.lt_or_ge i 408 with h3 | h3
  · exact key 306 102 goes3 h2 (by omega)
  rcases Nat.lt_or_ge i 510 with h4 | h4
  · exact key 408 102 goes4 h3 (by omega)
  rcases Nat.lt_or_ge i 612 with h5 | h5
  · exact key 510 102 goes5 h4 (by omega)
  rcases Nat.lt_or_ge i 714 with h6 | h6
  · exact key 612 102 goes6 h5 (by omega)
  rcases Nat.lt_or_ge i 813 with h7 | h7
  · exact key 714 99 goes7 h6 (by omega)
  · rw [out_of h7]; rfl

theorem noGoes (f : FuncId) : Tryz.prog.goes f = false := by
  unfold Program.goes
  have h1 : ((Tryz.prog.closure f).any fun g => (Tryz.prog.funcs[g]?).any Func.goes) = false := by
    rw [List.any_eq_false]
    intro g _
    rw [goes_none g]
    decide
  have h2 : Tryz.prog.funcs.any Func.goes = false := by
    rw [Array.any_eq_false]
    intro i hi
    have := goes_none i
    rw [Array.getElem?_eq_getElem hi] at this
    simpa using this
  rw [h1, h2]
  simp
theorem goesAt_of (P : Program) (h : ∀ f, P.goes f = false) (t : Start) (x : String) : P.goesAt t x = false := by
  have h1 : (P.funcNamed x).any P.goes = false := by
    generalize P.funcNamed x = o
    cases o with
    | none => rfl
    | some f => exact h f
  have h2 : P.inits.toList.any P.goes = false := by
    rw [List.any_eq_false]
    intro g _
    rw [h g]
    exact Bool.false_ne_true
  unfold Program.goesAt Program.goesFrom
  rw [h1]
  cases t <;> simp [h2]
theorem cardGoes : false = Rows.reportAuditsRow.goesBy Tryz.prog := (goesAt_of Tryz.prog noGoes _ _).symm

/-! ### the closure, off the table -/
noncomputable def ofT : List (List Nat) → AX.Tr (List Nat) → Nat → AX.Tr (List Nat)
  | [], t, _ => t
  | x :: l, t, i => ofT l (t.set i x) (i + 1)
noncomputable def ledT : AX.Tr (List Nat) := ofT allLed .nil 0
theorem ofT_get : ∀ (l : List (List Nat)) (t : AX.Tr (List Nat)) (i j : Nat), (ofT l t i).get j = if i ≤ j ∧ j < i + l.length then l[j - i]? else t.get j
  | [], t, i, j => by simp [ofT]; omega
  | x :: l, t, i, j => by
    simp only [ofT]
    rw [ofT_get l _ (i + 1) j, AX.Tr.get_set]
    by_cases h : j = i
    · subst h
      rw [if_neg (by omega), if_pos rfl, if_pos ⟨Nat.le_refl _, by simp⟩]
      simp
    · rw [if_neg h]
      by_cases h1 : i + 1 ≤ j ∧ j < i + 1 + l.length
      · rw [if_pos h1, if_pos (by simp only [List.length_cons]; omega)]
        have : j - i = (j - (i + 1)) + 1 := by omega
        rw [this]; simp
      · rw [if_neg h1, if_neg (by simp only [List.length_cons]; omega)]
noncomputable def ledG (f : Nat) : List Nat := match ledT.get f with
  | some l => l
  | none => []
theorem ledG_eq (f : Nat) : ledG f = ledBy f := by
  rw [led_at]
  unfold ledG ledT
  rw [ofT_get]
  simp only [Nat.zero_le, true_and, Nat.zero_add, Nat.sub_zero, AX.Tr.get_nil]
  by_cases h : f < allLed.length
  · rw [if_pos h, List.getElem?_eq_getElem h]
    simp [List.getD, h]
  · rw [if_neg h]
    simp [List.getD, List.getElem?_eq_none (Nat.le_of_not_lt h)]

noncomputable def closM : Nat → List Nat → List Nat → Nat → List Nat
  | 0, _, seen, _ => seen.reverse
  | _, [], seen, _ => seen.reverse
  | n + 1, f :: todo, seen, m => cond (bit m f) (closM n todo seen m) (closM n (ledG f ++ todo) (f :: seen) (Nat.lor m (one f)))
theorem closM_eq : ∀ (n : Nat) (todo seen : List Nat) (m : Nat), (∀ f, bit m f = seen.contains f) → Tryz.prog.closureVia n todo seen = closM n todo seen m
  | 0, todo, seen, m, _ => by simp [Program.closureVia, closM]
  | n + 1, [], seen, m, _ => by simp [Program.closureVia, closM]
  | n + 1, f :: todo, seen, m, h => by
    simp only [Program.closureVia, closM]
    rw [h f]
    cases hc : seen.contains f with
    | true => simp only [if_true, cond_true]; exact closM_eq n todo seen m h
    | false =>
      simp only [Bool.false_eq_true, if_false, cond_false]
      rw [ledG_eq]
      refine closM_eq n _ (f :: seen) _ fun g => ?_
      rw [bit_lor, h g, List.contains_cons]
      have : bit (one f) g = (g == f) := by
        rw [Bool.eq_iff_iff, bit_one]; simp
      rw [this, Bool.or_comm]
theorem led_fuel : 1 + (allLed.map (fun l => l.length + 1)).sum = 2338 := by kernel_rfl
theorem fuel_of (P : Program) (L M : List (List Nat)) (h : P.funcs.toList.map (fun g => (P.leadsTo g).length + 1) = L.map (fun l => l.length + 1)) (hm : L = M) (n : Nat) (h2 : 1 + (M.map (fun l => l.length + 1)).sum = n) : 1 + (P.funcs.toList.map fun g => (P.leadsTo g).length + 1).sum = n := by
  rw [h, hm]; exact h2
theorem lens : (Tryz.prog.funcs.toList.map fun g => (Tryz.prog.leadsTo g).length + 1) = ((List.range 813).map ledBy).map (fun l => l.length + 1) := by
  apply List.ext_getElem?
  intro i
  rw [List.map_map, List.getElem?_map, List.getElem?_map]
  by_cases h : i < 813
  · have hs : i < Tryz.prog.funcs.size := by rw [sizeF]; exact h
    rw [List.getElem?_range h, Array.getElem?_toList, Array.getElem?_eq_getElem hs]
    simp only [Option.map_some, Function.comp, ledBy, Array.getElem?_eq_getElem hs]
    rfl
  · rw [List.getElem?_eq_none (l := Tryz.prog.funcs.toList) (by rw [Array.length_toList, sizeF]; omega), List.getElem?_eq_none (l := List.range 813) (by rw [List.length_range]; omega)]
    rfl
theorem fuelF : 1 + (Tryz.prog.funcs.toList.map fun g => (Tryz.prog.leadsTo g).length + 1).sum = 2338 := fuel_of Tryz.prog _ allLed lens led_all 2338 led_fuel
noncomputable def cloL : List Nat := [3, 4, 12, 18, 27, 42, 80, 122, 123, 124, 197, 270, 82, 125, 198, 271, 199, 272, 371, 372, 373, 467, 81, 126, 200, 201, 127, 202, 273, 274, 275, 374, 468, 469, 375, 470, 546, 471, 472, 25, 41, 79, 118, 119, 193, 192, 194, 120, 121, 195, 196, 268, 269, 547, 473, 128, 203, 276, 376, 474, 377, 378, 379, 43, 83, 129, 85, 84, 134, 131, 88, 130, 132, 133, 135, 86, 136, 137, 87, 138, 204, 206, 278, 277, 380, 205, 207, 208, 28, 44, 89, 139, 209, 90, 45, 91, 140, 210, 97, 141, 211, 142, 212, 92, 143, 213, 279, 280, 281, 381, 214, 93, 282, 382, 383, 475, 283, 384, 385, 476, 548, 477, 478, 549, 624, 625, 674, 284, 386, 285, 387, 479, 286, 144, 215, 145, 217, 295, 216, 287, 288, 388, 289, 389, 390, 290, 391, 392, 480, 291, 292, 293, 294, 146, 147, 218, 148, 46, 94, 95, 150, 149, 96, 19, 30, 29, 20, 13, 22, 31, 33, 47, 49, 58, 48, 50, 98, 51, 52, 99, 34, 56, 102, 100, 151, 55, 57, 59, 32, 53, 101, 152, 54, 60, 61, 21, 24, 38, 67, 103, 68, 104, 153, 69, 105, 154, 155, 157, 219, 296, 235, 172, 220, 297, 393, 394, 481, 550, 482, 395, 17, 26, 298, 396, 483, 299, 300, 156, 158, 221, 222, 301, 302, 303, 36, 63, 64, 159, 223, 304, 397, 305, 224, 170, 160, 225, 161, 226, 306, 307, 398, 399, 308, 227, 238, 163, 162, 230, 229, 309, 176, 242, 326, 419, 327, 328, 420, 329, 330, 331, 334, 425, 508, 426, 509, 428, 429, 427, 430, 431, 432, 243, 256, 350, 332, 421, 506, 595, 529, 617, 664, 690, 665, 666, 667, 560, 633, 675, 676, 696, 677, 678, 596, 653, 684, 698, 706, 707, 422, 423, 507, 333, 424, 400, 484, 551, 485, 552, 554, 555, 553, 626, 486, 556, 627, 628, 557, 629, 401, 487, 310, 312, 311, 402, 488, 558, 630, 631, 632, 559, 561, 253, 489, 562, 634, 445, 523, 610, 611, 337, 524, 612, 490, 247, 335, 433, 434, 403, 435, 492, 491, 563, 248, 336, 179, 114, 181, 257, 351, 353, 453, 530, 451, 449, 527, 613, 614, 663, 314, 406, 615, 407, 495, 579, 450, 528, 616, 352, 452, 319, 405, 412, 413, 503, 582, 504, 583, 584, 646, 647, 648, 649, 650, 585, 586, 587, 588, 589, 590, 493, 564, 635, 636, 244, 565, 637, 566, 638, 679, 567, 320, 414, 505, 591, 592, 593, 651, 680, 697, 681, 682, 683, 652, 594, 444, 169, 228, 70, 106, 39, 40, 71, 107, 165, 164, 231, 115, 182, 258, 354, 454, 355, 455, 531, 537, 532, 618, 533, 534, 619, 620, 668, 535, 536, 538, 539, 356, 259, 357, 456, 540, 510, 598, 597, 654, 655, 511, 599, 512, 513, 541, 600, 656, 685, 700, 701, 699, 708, 709, 688, 657, 686, 411, 687, 658, 659, 621, 669, 670, 671, 457, 458, 542, 622, 543, 358, 459, 440, 521, 441, 522, 602, 603, 660, 604, 605, 661, 662, 689, 606, 607, 608, 609, 442, 359, 460, 313, 404, 494, 571, 568, 639, 640, 645, 569, 641, 642, 643, 644, 570, 572, 573, 574, 575, 576, 577, 578, 232, 233, 167, 166, 234, 315, 168, 72, 108, 73, 109, 171, 236, 316, 408, 322, 173, 237, 318, 317, 409, 496, 580, 497, 498, 410, 499, 502, 581, 240, 500, 501, 174, 239, 321, 415, 74, 110, 111, 112, 175, 241, 323, 416, 324, 325, 417, 418, 177, 178, 246, 245, 249, 338, 436, 437, 514, 515, 516, 517, 518, 601, 438, 519, 250, 341, 340, 446, 254, 347, 348, 448, 525, 526, 346, 439, 520, 339, 443, 251, 342, 343, 344, 447, 345, 252, 113, 180, 255, 349, 361, 465, 75, 116, 183, 260, 360, 461, 544, 462, 464, 463, 184, 261, 362, 363, 364, 365, 366, 367, 76, 77, 117, 185, 186, 188, 262, 187, 190, 189, 263, 368, 264, 369, 370, 466, 545, 623, 672, 691, 702, 710, 711, 712, 721, 725, 713, 692, 693, 703, 714, 704, 715, 716, 718, 717, 719, 720, 722, 723, 724, 705, 673, 694, 695, 191, 265, 266, 267, 78, 23, 35, 62, 37, 66, 65, 5, 7, 14, 15, 9, 8, 16, 6, 10, 11]
theorem closM3 : closM 2338 [3] [] 0 = cloL := by kernel_rfl
theorem via3 : Tryz.prog.closureVia 2338 [3] [] = cloL := (closM_eq 2338 [3] [] 0 (fun f => by simp [bit_eq])).trans closM3
theorem closure_of (P : Program) (f : FuncId) (n : Nat) (h : 1 + (P.funcs.toList.map fun g => (P.leadsTo g).length + 1).sum = n) : P.closure f = P.closureVia n [f] [] := by
  unfold Program.closure
  rw [h]
theorem closure3 : Tryz.prog.closure 3 = cloL := (closure_of Tryz.prog 3 2338 fuelF).trans via3
end Go.Proofs.YtnjpoodfaendkaaGreatDoor
