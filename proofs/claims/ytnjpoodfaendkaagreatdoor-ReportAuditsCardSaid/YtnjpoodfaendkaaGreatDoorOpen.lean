import Derived.Test.YtnjpoodfaendkaaGreatDoorF3b
import Derived.Test.YtnjpoodfaendkaaGreatDoorRows
import Derived.Test.YtnjpoodfaendkaaGreatDoorCards
import Derived.Test.YtnjpoodfaendkaaGreatDoorTie
import Derived.ProofKit
import Derived.LaidMore
import Derived.OpenShut
import Derived.Stop.Joined
import Derived.Stop.LaidErr
import Derived.SliceStrings
set_option linter.unusedVariables false
set_option linter.unusedSimpArgs false
set_option linter.unusedVariables false
namespace Go.Proofs.YtnjpoodfaendkaaGreatDoor
open Go.ChangeShapes Go.WideShapes Go.ChangeAt Go.RowKit

theorem array15 {α : Type} {cs : Array α} (h : cs.size = 15) : ∃ c0 c1 c2 c3 c4 c5 c6 c7 c8 c9 c10 c11 c12 c13 c14, cs = #[c0, c1, c2, c3, c4, c5, c6, c7, c8, c9, c10, c11, c12, c13, c14] := by
  obtain ⟨l⟩ := cs
  match l, h with
  | [c0, c1, c2, c3, c4, c5, c6, c7, c8, c9, c10, c11, c12, c13, c14], _ => exact ⟨c0, c1, c2, c3, c4, c5, c6, c7, c8, c9, c10, c11, c12, c13, c14, rfl⟩

section
variable {H : Type} {enc : TypeId × Value → H} {w : World} {base : Nat} {spare : Nat → Bool} {held : Bool}

theorem cells26 : Tryz.prog.cellsOf 26 = 15 := by kernel_rfl
theorem cells24 : Tryz.prog.cellsOf 24 = 4 := by kernel_rfl
theorem cells3 : Tryz.prog.cellsOf 3 = 1 := by kernel_rfl
theorem cells22 : Tryz.prog.cellsOf 22 = 1 := by kernel_rfl
theorem cells9' : Tryz.prog.cellsOf 9 = 1 := by kernel_rfl

theorem fits_wf {n : Int} (h : (Lit.int .i64 n).wf = true) : fits n := by
  have h1 : IntKind.i64.min = -9223372036854775808 := rfl
  have h2 : IntKind.i64.max = 9223372036854775807 := rfl
  simp only [Lit.wf, Bool.and_eq_true, decide_eq_true_eq] at h
  exact ⟨by omega, by omega⟩

set_option maxRecDepth 100000 in
theorem open_rep {r : Reach} {b0 : Nat} {v : Value} {d : DataW H} {p : List MemPlace} (hv : Value.okWide Tryz.prog w r b0 26 v) (h : DataW.Trod enc Tryz.prog w base spare held 26 v d p) :
    ∃ g0 g1 a2 a3 a4 a5 a6 a7 a8 a9 a10 a11 a12 a13 a14 : Int, v = repV g0 g1 a2 a3 a4 a5 a6 a7 a8 a9 a10 a11 a12 a13 a14 ∧ (fits a2 ∧ fits a3 ∧ fits a5 ∧ fits a6 ∧ fits a7 ∧ fits a8 ∧ fits a9 ∧ fits a10 ∧ fits a11 ∧ fits a12 ∧ fits a13 ∧ fits a14) := by
  obtain ⟨cs, rfl, hsz⟩ := okWide_struct Tryz.underlying26 hv
  obtain ⟨c0, c1, c2, c3, c4, c5, c6, c7, c8, c9, c10, c11, c12, c13, c14, rfl⟩ := array15 (hsz.trans cells26)
  obtain ⟨fuel, hf⟩ := h
  obtain ⟨xs, n, _, _, _, hl, hi⟩ := DataW.trod_struct Tryz.underlying26 hf
  simp only [Value.cells] at hi
  obtain ⟨y0, hy0⟩ : ∃ y, xs[0]? = some y := ⟨xs[0]'(by rw [hl]; decide), List.getElem?_eq_getElem _⟩
  have h0 : DataW.trod enc Tryz.prog w base spare held n 24 (([c0, c1, c2, c3, c4, c5, c6, c7, c8, c9, c10, c11, c12, c13, c14].drop 0).take (Tryz.prog.cellsOf 24)) = xs[0]? := hi 0 _ rfl
  rw [hy0] at h0
  simp only [cells24, List.drop, List.take] at h0
  obtain ⟨y1, hy1⟩ : ∃ y, xs[1]? = some y := ⟨xs[1]'(by rw [hl]; decide), List.getElem?_eq_getElem _⟩
  have h1 : DataW.trod enc Tryz.prog w base spare held n 3 (([c0, c1, c2, c3, c4, c5, c6, c7, c8, c9, c10, c11, c12, c13, c14].drop 4).take (Tryz.prog.cellsOf 3)) = xs[1]? := hi 1 _ rfl
  rw [hy1] at h1
  simp only [cells3, List.drop, List.take] at h1
  obtain ⟨y2, hy2⟩ : ∃ y, xs[2]? = some y := ⟨xs[2]'(by rw [hl]; decide), List.getElem?_eq_getElem _⟩
  have h2 : DataW.trod enc Tryz.prog w base spare held n 3 (([c0, c1, c2, c3, c4, c5, c6, c7, c8, c9, c10, c11, c12, c13, c14].drop 5).take (Tryz.prog.cellsOf 3)) = xs[2]? := hi 2 _ rfl
  rw [hy2] at h2
  simp only [cells3, List.drop, List.take] at h2
  obtain ⟨y3, hy3⟩ : ∃ y, xs[3]? = some y := ⟨xs[3]'(by rw [hl]; decide), List.getElem?_eq_getElem _⟩
  have h3 : DataW.trod enc Tryz.prog w base spare held n 3 (([c0, c1, c2, c3, c4, c5, c6, c7, c8, c9, c10, c11, c12, c13, c14].drop 6).take (Tryz.prog.cellsOf 3)) = xs[3]? := hi 3 _ rfl
  rw [hy3] at h3
  simp only [cells3, List.drop, List.take] at h3
  obtain ⟨y4, hy4⟩ : ∃ y, xs[4]? = some y := ⟨xs[4]'(by rw [hl]; decide), List.getElem?_eq_getElem _⟩
  have h4 : DataW.trod enc Tryz.prog w base spare held n 3 (([c0, c1, c2, c3, c4, c5, c6, c7, c8, c9, c10, c11, c12, c13, c14].drop 7).take (Tryz.prog.cellsOf 3)) = xs[4]? := hi 4 _ rfl
  rw [hy4] at h4
  simp only [cells3, List.drop, List.take] at h4
  obtain ⟨y5, hy5⟩ : ∃ y, xs[5]? = some y := ⟨xs[5]'(by rw [hl]; decide), List.getElem?_eq_getElem _⟩
  have h5 : DataW.trod enc Tryz.prog w base spare held n 3 (([c0, c1, c2, c3, c4, c5, c6, c7, c8, c9, c10, c11, c12, c13, c14].drop 8).take (Tryz.prog.cellsOf 3)) = xs[5]? := hi 5 _ rfl
  rw [hy5] at h5
  simp only [cells3, List.drop, List.take] at h5
  obtain ⟨y6, hy6⟩ : ∃ y, xs[6]? = some y := ⟨xs[6]'(by rw [hl]; decide), List.getElem?_eq_getElem _⟩
  have h6 : DataW.trod enc Tryz.prog w base spare held n 3 (([c0, c1, c2, c3, c4, c5, c6, c7, c8, c9, c10, c11, c12, c13, c14].drop 9).take (Tryz.prog.cellsOf 3)) = xs[6]? := hi 6 _ rfl
  rw [hy6] at h6
  simp only [cells3, List.drop, List.take] at h6
  obtain ⟨y7, hy7⟩ : ∃ y, xs[7]? = some y := ⟨xs[7]'(by rw [hl]; decide), List.getElem?_eq_getElem _⟩
  have h7 : DataW.trod enc Tryz.prog w base spare held n 3 (([c0, c1, c2, c3, c4, c5, c6, c7, c8, c9, c10, c11, c12, c13, c14].drop 10).take (Tryz.prog.cellsOf 3)) = xs[7]? := hi 7 _ rfl
  rw [hy7] at h7
  simp only [cells3, List.drop, List.take] at h7
  obtain ⟨y8, hy8⟩ : ∃ y, xs[8]? = some y := ⟨xs[8]'(by rw [hl]; decide), List.getElem?_eq_getElem _⟩
  have h8 : DataW.trod enc Tryz.prog w base spare held n 3 (([c0, c1, c2, c3, c4, c5, c6, c7, c8, c9, c10, c11, c12, c13, c14].drop 11).take (Tryz.prog.cellsOf 3)) = xs[8]? := hi 8 _ rfl
  rw [hy8] at h8
  simp only [cells3, List.drop, List.take] at h8
  obtain ⟨y9, hy9⟩ : ∃ y, xs[9]? = some y := ⟨xs[9]'(by rw [hl]; decide), List.getElem?_eq_getElem _⟩
  have h9 : DataW.trod enc Tryz.prog w base spare held n 3 (([c0, c1, c2, c3, c4, c5, c6, c7, c8, c9, c10, c11, c12, c13, c14].drop 12).take (Tryz.prog.cellsOf 3)) = xs[9]? := hi 9 _ rfl
  rw [hy9] at h9
  simp only [cells3, List.drop, List.take] at h9
  obtain ⟨y10, hy10⟩ : ∃ y, xs[10]? = some y := ⟨xs[10]'(by rw [hl]; decide), List.getElem?_eq_getElem _⟩
  have h10 : DataW.trod enc Tryz.prog w base spare held n 3 (([c0, c1, c2, c3, c4, c5, c6, c7, c8, c9, c10, c11, c12, c13, c14].drop 13).take (Tryz.prog.cellsOf 3)) = xs[10]? := hi 10 _ rfl
  rw [hy10] at h10
  simp only [cells3, List.drop, List.take] at h10
  obtain ⟨y11, hy11⟩ : ∃ y, xs[11]? = some y := ⟨xs[11]'(by rw [hl]; decide), List.getElem?_eq_getElem _⟩
  have h11 : DataW.trod enc Tryz.prog w base spare held n 3 (([c0, c1, c2, c3, c4, c5, c6, c7, c8, c9, c10, c11, c12, c13, c14].drop 14).take (Tryz.prog.cellsOf 3)) = xs[11]? := hi 11 _ rfl
  rw [hy11] at h11
  simp only [cells3, List.drop, List.take] at h11
  obtain ⟨zs, m, _, _, _, hzl, hz⟩ := DataW.trod_struct Tryz.underlying24 h0
  obtain ⟨z0, hz0⟩ : ∃ y, zs[0]? = some y := ⟨zs[0]'(by rw [hzl]; decide), List.getElem?_eq_getElem _⟩
  have k0 : DataW.trod enc Tryz.prog w base spare held m 22 (([c0, c1, c2, c3].drop 0).take (Tryz.prog.cellsOf 22)) = zs[0]? := hz 0 _ rfl
  rw [hz0] at k0
  simp only [cells22, List.drop, List.take] at k0
  obtain ⟨g0, e0, _, w0⟩ := DataW.trod_int Tryz.underlying22 k0
  obtain ⟨z1, hz1⟩ : ∃ y, zs[1]? = some y := ⟨zs[1]'(by rw [hzl]; decide), List.getElem?_eq_getElem _⟩
  have k1 : DataW.trod enc Tryz.prog w base spare held m 22 (([c0, c1, c2, c3].drop 1).take (Tryz.prog.cellsOf 22)) = zs[1]? := hz 1 _ rfl
  rw [hz1] at k1
  simp only [cells22, List.drop, List.take] at k1
  obtain ⟨g1, e1, _, w1⟩ := DataW.trod_int Tryz.underlying22 k1
  obtain ⟨z2, hz2⟩ : ∃ y, zs[2]? = some y := ⟨zs[2]'(by rw [hzl]; decide), List.getElem?_eq_getElem _⟩
  have k2 : DataW.trod enc Tryz.prog w base spare held m 3 (([c0, c1, c2, c3].drop 2).take (Tryz.prog.cellsOf 3)) = zs[2]? := hz 2 _ rfl
  rw [hz2] at k2
  simp only [cells3, List.drop, List.take] at k2
  obtain ⟨a2, e2, _, w2⟩ := DataW.trod_int Tryz.underlying3 k2
  obtain ⟨z3, hz3⟩ : ∃ y, zs[3]? = some y := ⟨zs[3]'(by rw [hzl]; decide), List.getElem?_eq_getElem _⟩
  have k3 : DataW.trod enc Tryz.prog w base spare held m 3 (([c0, c1, c2, c3].drop 3).take (Tryz.prog.cellsOf 3)) = zs[3]? := hz 3 _ rfl
  rw [hz3] at k3
  simp only [cells3, List.drop, List.take] at k3
  obtain ⟨a3, e3, _, w3⟩ := DataW.trod_int Tryz.underlying3 k3
  obtain ⟨a4, e4, _, w4⟩ := DataW.trod_int Tryz.underlying3 h1
  obtain ⟨a5, e5, _, w5⟩ := DataW.trod_int Tryz.underlying3 h2
  obtain ⟨a6, e6, _, w6⟩ := DataW.trod_int Tryz.underlying3 h3
  obtain ⟨a7, e7, _, w7⟩ := DataW.trod_int Tryz.underlying3 h4
  obtain ⟨a8, e8, _, w8⟩ := DataW.trod_int Tryz.underlying3 h5
  obtain ⟨a9, e9, _, w9⟩ := DataW.trod_int Tryz.underlying3 h6
  obtain ⟨a10, e10, _, w10⟩ := DataW.trod_int Tryz.underlying3 h7
  obtain ⟨a11, e11, _, w11⟩ := DataW.trod_int Tryz.underlying3 h8
  obtain ⟨a12, e12, _, w12⟩ := DataW.trod_int Tryz.underlying3 h9
  obtain ⟨a13, e13, _, w13⟩ := DataW.trod_int Tryz.underlying3 h10
  obtain ⟨a14, e14, _, w14⟩ := DataW.trod_int Tryz.underlying3 h11
  simp only [List.cons.injEq, and_true] at e0 e1 e2 e3 e4 e5 e6 e7 e8 e9 e10 e11 e12 e13 e14
  subst e0 e1 e2 e3 e4 e5 e6 e7 e8 e9 e10 e11 e12 e13 e14
  exact ⟨g0, g1, a2, a3, a4, a5, a6, a7, a8, a9, a10, a11, a12, a13, a14, rfl, fits_wf w2, fits_wf w3, fits_wf w5, fits_wf w6, fits_wf w7, fits_wf w8, fits_wf w9, fits_wf w10, fits_wf w11, fits_wf w12, fits_wf w13, fits_wf w14⟩
end
end Go.Proofs.YtnjpoodfaendkaaGreatDoor
