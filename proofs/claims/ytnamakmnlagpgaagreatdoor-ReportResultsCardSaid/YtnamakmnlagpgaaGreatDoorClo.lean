import Derived.Test.YtnamakmnlagpgaaGreatDoorTab0
import Derived.Test.YtnamakmnlagpgaaGreatDoorTab2
import Derived.Test.YtnamakmnlagpgaaGreatDoorTab4
import Derived.Test.YtnamakmnlagpgaaGreatDoorTab6
import Derived.Test.YtnamakmnlagpgaaGreatDoorAx8
set_option linter.unusedVariables false
set_option linter.unusedSimpArgs false
namespace Go.Proofs.YtnamakmnlagpgaaGreatDoor
open Go Go.AX

noncomputable def allLed : List (List Nat) := led0 ++ led1 ++ led2 ++ led3 ++ led4 ++ led5 ++ led6 ++ led7
noncomputable def allNam : List (List Nat) := nam0 ++ nam1 ++ nam2 ++ nam3 ++ nam4 ++ nam5 ++ nam6 ++ nam7

theorem sizeF : Tryz.prog.funcs.size = 814 := by kernel_rfl
theorem led_all : (List.range 814).map ledBy = allLed := by
  have e : List.range 814 = List.range' 0 102 ++ List.range' 102 102 ++ List.range' 204 102 ++ List.range' 306 102 ++ List.range' 408 102 ++ List.range' 510 102 ++ List.range' 612 102 ++ List.range' 714 100 := by kernel_rfl
  rw [e]
  simp only [List.map_append, led0_eq, led1_eq, led2_eq, led3_eq, led4_eq, led5_eq, led6_eq, led7_eq, allLed]
theorem nam_all : (List.range 814).map namesOf = allNam := by
  have e : List.range 814 = List.range' 0 102 ++ List.range' 102 102 ++ List.range' 204 102 ++ List.range' 306 102 ++ List.range' 408 102 ++ List.range' 510 102 ++ List.range' 612 102 ++ List.range' 714 100 := by kernel_rfl
  rw [e]
  simp only [List.map_append, nam0_eq, nam1_eq, nam2_eq, nam3_eq, nam4_eq, nam5_eq, nam6_eq, nam7_eq, allNam]

theorem out_of {i : Nat} (h : 814 ≤ i) : Tryz.prog.funcs[i]? = none := Array.getElem?_eq_none (by rw [sizeF]; exact h)
theorem led_at (i : Nat) : ledBy i = allLed.getD i [] := by
  rw [← led_all]
  by_cases h : i < 814
  · simp [List.getD, h]
  · have : ledBy i = [] := by unfold ledBy; rw [out_of (by omega)]; rfl
    rw [this]
    simp [List.getD, h]
theorem nam_at (i : Nat) : namesOf i = allNam.getD i [] := by
  rw [← nam_all]
  by_cases h : i < 814
  · simp [List.getD, h]
  · have : namesOf i = [] := by unfold namesOf; rw [out_of (by omega)]; rfl
    rw [this]
    simp [List.getD, h]

theorem goes_none (i : Nat) : (Tryz.prog.funcs[i]?).any Func.goes = false := by
  have key : ∀ (a n : Nat), ((List.range' a n).all fun i => !((Tryz.prog.funcs[i]?).any Func.goes)) = true → a ≤ i → i < a + n → (Tryz.prog.funcs[i]?).any Func.goes = false := fun a n h h1 h2 => by
    have := List.all_eq_true.1 h i (List.mem_range'_1.2 ⟨h1, h2⟩)
    simpa using this
  rcases Nat.lt_or_ge i 102 with h0 | h0
  · exact key 0 102 goes0 (Nat.zero_le _) (by omega)
  rcases Nat.lt_or_ge i 204 with h1 | h1
  · exact key 102 102 goes1 h0 (by omega)
  rcases Nat.lt_or_ge i 306 with h2 | h2
  · exact key 204 102 goes2 h1 (by omega)
  rcases Nat.lt_or_ge i 408 with h3 | h3
  · exact key 306 102 goes3 h2 (by omega)
  rcases Nat.lt_or_ge i 510 with h4 | h4
  · exact key 408 102 goes4 h3 (by omega)
  rcases Nat.lt_or_ge i 612 with h5 | h5
  · exact key 510 102 goes5 h4 (by omega)
  rcases Nat.lt_or_ge i 714 with h6 | h6
  · exact key 612 102 goes6 h5 (by omega)
  rcases Nat.lt_or_ge i 814 with h7 | h7
  · exact key 714 100 goes7 h6 (by omega)
  · rw [out_of h7]; rfl

theorem noGoes (f : FuncId) : Tryz.prog.goes f = false := by
  unfold Program.goes
  have h1 : ((Tryz.prog.closure f).any fun g => (Tryz.prog.funcs[g]?).any Func.goes) = false := by
    rw [List.any_eq_false]
    intro g _
    rw [goes_none g]
    decide
  have h2 : Tryz.prog.funcs.any Func.goes = false := by
    rw [Array.any_eq_false]
    intro i hi
    have := goes_none i
    rw [Array.getElem?_eq_getElem hi] at this
    simpa using this
  rw [h1, h2]
  simp
theorem goesAt_of (P : Program) (h : ∀ f, P.goes f = false) (t : Start) (x : String) : P.goesAt t x = false := by
  have h1 : (P.funcNamed x).any P.goes = false := by
    generalize P.funcNamed x = o
    cases o with
    | none => rfl
    | some f => exact h f
  have h2 : P.inits.toList.any P.goes = false := by
    rw [List.any_eq_false]
    intro g _
    rw [h g]
    exact Bool.false_ne_true
  unfold Program.goesAt Program.goesFrom
  rw [h1]
  cases t <;> simp [h2]
/-! ### the closure, off the table -/
noncomputable def ofT : List (List Nat) → AX.Tr (List Nat) → Nat → AX.Tr (List Nat)
  | [], t, _ => t
  | x :: l, t, i => ofT l (t.set i x) (i + 1)
noncomputable def ledT : AX.Tr (List Nat) := ofT allLed .nil 0
theorem ofT_get : ∀ (l : List (List Nat)) (t : AX.Tr (List Nat)) (i j : Nat), (ofT l t i).get j = if i ≤ j ∧ j < i + l.length then l[j - i]? else t.get j
  | [], t, i, j => by simp [ofT]; omega
  | x :: l, t, i, j => by
    simp only [ofT]
    rw [ofT_get l _ (i + 1) j, AX.Tr.get_set]
    by_cases h : j = i
    · subst h
      rw [if_neg (by omega), if_pos rfl, if_pos ⟨Nat.le_refl _, by simp⟩]
      simp
    · rw [if_neg h]
      by_cases h1 : i + 1 ≤ j ∧ j < i + 1 + l.length
      · rw [if_pos h1, if_pos (by simp only [List.length_cons]; omega)]
        have : j - i = (j - (i + 1)) + 1 := by omega
        rw [this]; simp
      · rw [if_neg h1, if_neg (by simp only [List.length_cons]; omega)]
noncomputable def ledG (f : Nat) : List Nat := match ledT.get f with
  | some l => l
  | none => []
theorem ledG_eq (f : Nat) : ledG f = ledBy f := by
  rw [led_at]
  unfold ledG ledT
  rw [ofT_get]
  simp only [Nat.zero_le, true_and, Nat.zero_add, Nat.sub_zero, AX.Tr.get_nil]
  by_cases h : f < allLed.length
  · rw [if_pos h, List.getElem?_eq_getElem h]
    simp [List.getD, h]
  · rw [if_neg h]
    simp [List.getD, List.getElem?_eq_none (Nat.le_of_not_lt h)]

noncomputable def closM : Nat → List Nat → List Nat → Nat → List Nat
  | 0, _, seen, _ => seen.reverse
  | _, [], seen, _ => seen.reverse
  | n + 1, f :: todo, seen, m => cond (bit m f) (closM n todo seen m) (closM n (ledG f ++ todo) (f :: seen) (Nat.lor m (one f)))
theorem closM_eq : ∀ (n : Nat) (todo seen : List Nat) (m : Nat), (∀ f, bit m f = seen.contains f) → Tryz.prog.closureVia n todo seen = closM n todo seen m
  | 0, todo, seen, m, _ => by simp [Program.closureVia, closM]
  | n + 1, [], seen, m, _ => by simp [Program.closureVia, closM]
  | n + 1, f :: todo, seen, m, h => by
    simp only [Program.closureVia, closM]
    rw [h f]
    cases hc : seen.contains f with
    | true => simp only [if_true, cond_true]; exact closM_eq n todo seen m h
    | false =>
      simp only [Bool.false_eq_true, if_false, cond_false]
      rw [ledG_eq]
      refine closM_eq n _ (f :: seen) _ fun g => ?_
      rw [bit_lor, h g, List.contains_cons]
      have : bit (one f) g = (g == f) := by
        rw [Bool.eq_iff_iff, bit_one]; simp
      rw [this, Bool.or_comm]
theorem led_fuel : 1 + (allLed.map (fun l => l.length + 1)).sum = 2344 := by kernel_rfl
theorem fuel_of (P : Program) (L M : List (List Nat)) (h : P.funcs.toList.map (fun g => (P.leadsTo g).length + 1) = L.map (fun l => l.length + 1)) (hm : L = M) (n : Nat) (h2 : 1 + (M.map (fun l => l.length + 1)).sum = n) : 1 + (P.funcs.toList.map fun g => (P.leadsTo g).length + 1).sum = n := by
  rw [h, hm]; exact h2
theorem lens : (Tryz.prog.funcs.toList.map fun g => (Tryz.prog.leadsTo g).length + 1) = ((List.range 814).map ledBy).map (fun l => l.length + 1) := by
  apply List.ext_getElem?
  intro i
  rw [List.map_map, List.getElem?_map, List.getElem?_map]
  by_cases h : i < 814
  · have hs : i < Tryz.prog.funcs.size := by rw [sizeF]; exact h
    rw [List.getElem?_range h, Array.getElem?_toList, Array.getElem?_eq_getElem hs]
    simp only [Option.map_some, Function.comp, ledBy, Array.getElem?_eq_getElem hs]
    rfl
  · rw [List.getElem?_eq_none (l := Tryz.prog.funcs.toList) (by rw [Array.length_toList, sizeF]; omega), List.getElem?_eq_none (l := List.range 814) (by rw [List.length_range]; omega)]
    rfl
theorem fuelF : 1 + (Tryz.prog.funcs.toList.map fun g => (Tryz.prog.leadsTo g).length + 1).sum = 2344 := fuel_of Tryz.prog _ allLed lens led_all 2344 led_fuel
noncomputable def cloL : List Nat := [3, 4, 12, 25, 40, 53, 88, 128, 129, 130, 198, 269, 90, 131, 199, 270, 200, 271, 370, 371, 372, 466, 89, 132, 201, 202, 133, 203, 272, 273, 274, 373, 467, 468, 374, 469, 546, 470, 471, 23, 37, 52, 84, 85, 124, 123, 125, 86, 87, 126, 127, 196, 197, 547, 472, 134, 204, 275, 375, 473, 376, 377, 378, 54, 91, 135, 93, 92, 140, 137, 96, 136, 138, 139, 141, 94, 142, 143, 95, 144, 205, 207, 277, 276, 379, 206, 208, 209, 41, 55, 97, 145, 210, 98, 56, 99, 146, 211, 105, 147, 212, 148, 213, 100, 149, 214, 278, 279, 280, 380, 215, 101, 281, 381, 382, 474, 282, 383, 384, 475, 548, 476, 477, 549, 625, 626, 675, 283, 385, 284, 386, 478, 285, 150, 216, 151, 218, 294, 217, 286, 287, 387, 288, 388, 389, 289, 390, 391, 479, 290, 291, 292, 293, 152, 153, 219, 154, 57, 102, 103, 156, 155, 104, 26, 43, 42, 27, 13, 28, 44, 19, 58, 60, 66, 59, 61, 106, 62, 63, 107, 45, 64, 49, 50, 82, 36, 65, 67, 22, 34, 51, 83, 35, 68, 69, 18, 29, 46, 70, 108, 71, 109, 157, 72, 110, 158, 159, 161, 220, 295, 236, 176, 221, 296, 392, 393, 480, 550, 481, 394, 482, 551, 297, 395, 483, 298, 299, 160, 162, 222, 223, 300, 301, 302, 21, 32, 33, 163, 224, 303, 396, 304, 225, 174, 164, 226, 165, 227, 305, 306, 397, 398, 307, 228, 239, 167, 166, 231, 230, 308, 180, 243, 325, 418, 326, 327, 419, 328, 329, 330, 333, 424, 508, 425, 509, 427, 428, 426, 429, 430, 431, 244, 257, 349, 331, 420, 506, 596, 529, 618, 665, 691, 666, 667, 668, 561, 634, 676, 677, 697, 678, 679, 597, 654, 685, 699, 707, 708, 421, 422, 507, 332, 423, 399, 484, 552, 485, 553, 555, 556, 554, 627, 486, 557, 628, 629, 558, 630, 400, 487, 309, 311, 310, 401, 488, 559, 631, 632, 633, 560, 562, 254, 489, 563, 635, 444, 523, 611, 612, 336, 524, 613, 490, 248, 334, 432, 433, 402, 434, 492, 491, 564, 249, 335, 183, 119, 185, 258, 350, 352, 452, 530, 450, 448, 527, 614, 615, 664, 313, 405, 616, 406, 495, 580, 449, 528, 617, 351, 451, 318, 404, 411, 412, 503, 583, 504, 584, 585, 647, 648, 649, 650, 651, 586, 587, 588, 589, 590, 591, 493, 565, 636, 637, 245, 566, 638, 567, 639, 680, 568, 319, 413, 505, 592, 593, 594, 652, 681, 698, 682, 683, 684, 653, 595, 443, 173, 229, 73, 111, 47, 48, 74, 112, 169, 168, 232, 120, 186, 259, 353, 453, 354, 454, 531, 537, 532, 619, 533, 534, 620, 621, 669, 535, 536, 538, 539, 355, 260, 356, 455, 540, 510, 599, 598, 655, 656, 511, 600, 512, 513, 541, 601, 657, 686, 701, 702, 700, 709, 710, 689, 658, 687, 410, 688, 659, 660, 622, 670, 671, 672, 456, 457, 542, 623, 543, 357, 458, 439, 521, 440, 522, 603, 604, 661, 605, 606, 662, 663, 690, 607, 608, 609, 610, 441, 358, 459, 312, 403, 494, 572, 569, 640, 641, 646, 570, 642, 643, 644, 645, 571, 573, 574, 575, 576, 577, 578, 579, 233, 234, 171, 170, 235, 314, 172, 75, 113, 76, 114, 175, 237, 315, 407, 321, 177, 238, 317, 316, 408, 496, 581, 497, 498, 409, 499, 502, 582, 241, 500, 501, 178, 240, 320, 414, 77, 115, 116, 117, 179, 242, 322, 415, 323, 324, 416, 417, 181, 182, 247, 246, 250, 337, 435, 436, 514, 515, 516, 517, 518, 602, 437, 519, 251, 340, 339, 445, 255, 346, 347, 447, 525, 526, 345, 438, 520, 338, 442, 252, 341, 342, 343, 446, 344, 253, 118, 184, 256, 348, 360, 464, 78, 121, 187, 261, 359, 460, 544, 461, 463, 462, 188, 262, 361, 362, 363, 364, 365, 366, 79, 80, 122, 189, 190, 192, 263, 191, 194, 193, 264, 367, 265, 368, 369, 465, 545, 624, 673, 692, 703, 711, 712, 713, 722, 726, 714, 693, 694, 704, 715, 705, 716, 717, 719, 718, 720, 721, 723, 724, 725, 706, 674, 695, 696, 195, 266, 267, 268, 81, 9, 20, 31, 24, 39, 38, 5, 6, 14, 30, 8, 17, 7, 15, 16, 11, 10]
theorem closM3 : closM 2344 [3] [] 0 = cloL := by kernel_rfl
theorem via3 : Tryz.prog.closureVia 2344 [3] [] = cloL := (closM_eq 2344 [3] [] 0 (fun f => by simp [bit_eq])).trans closM3
theorem closure_of (P : Program) (f : FuncId) (n : Nat) (h : 1 + (P.funcs.toList.map fun g => (P.leadsTo g).length + 1).sum = n) : P.closure f = P.closureVia n [f] [] := by
  unfold Program.closure
  rw [h]
theorem closure3 : Tryz.prog.closure 3 = cloL := (closure_of Tryz.prog 3 2344 fuelF).trans via3
end Go.Proofs.YtnamakmnlagpgaaGreatDoor
