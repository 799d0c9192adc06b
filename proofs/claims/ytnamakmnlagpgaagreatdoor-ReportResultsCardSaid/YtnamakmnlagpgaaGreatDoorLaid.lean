import Derived.Test.YtnamakmnlagpgaaGreatDoorOpen
import Derived.Test.YtnamakmnlagpgaaGreatDoorTy
import Derived.Lib.LaidTab
import Derived.Test.YtnamakmnlagpgaaGreatDoorRows
set_option linter.unusedVariables false
set_option linter.unusedSimpArgs false
namespace Go.Proofs.YtnamakmnlagpgaaGreatDoor
open Go Go.ChangeShapes Go.WideShapes Go.ChangeAt Go.RowKit

theorem laid_mem {P : Program} {w : World} : ∀ {l : List (String × DataW Unit)} {ps : List MemPlace}, DataW.LaidVars P w l ps → ∀ n d, (n, d) ∈ l →
    ∃ g t cs fuel p, P.globalNamed n = some g ∧ (P.globals[g]?).map (·.type) = some t ∧ w.var? P n = some cs ∧ DataW.trod (fun _ => ()) P w 0 (fun _ => true) false fuel t cs.toList = some (d, p) ∧ (∀ x ∈ MemPlace.row ⟨g, 0, none⟩ cs.size, x ∈ ps) ∧ ∀ x ∈ p, x ∈ ps
  | [], ps, _, n, d, h => by cases h
  | (n0, d0) :: r, ps, hl, n, d, h => by
    obtain ⟨g, t, cs, fuel, p, q, h1, h2, h3, h4, h5, h6⟩ := hl
    rcases List.mem_cons.1 h with e | h
    · simp only [Prod.mk.injEq] at e
      obtain ⟨rfl, rfl⟩ := e
      exact ⟨g, t, cs, fuel, p, h1, h2, h3, h4, fun x hx => by rw [h6]; simp [hx], fun x hx => by rw [h6]; simp [hx]⟩
    · obtain ⟨g', t', cs', fuel', p', a1, a2, a3, a4, a5, a6⟩ := laid_mem h5 n d h
      exact ⟨g', t', cs', fuel', p', a1, a2, a3, a4, fun x hx => by rw [h6]; simp [a5 x hx], fun x hx => by rw [h6]; simp [a6 x hx]⟩

/-- the whole row of a listed variable -/
theorem laid_row {P : Program} {w : World} {l : List (String × DataW Unit)} (h : laidMet P l w) {n : String} {d : DataW Unit} (hm : (n, d) ∈ l) {g : Nat} {t : TypeId} (hg : P.globalNamed n = some g) (ht : (P.globals[g]?).map (·.type) = some t) (hpos : ∀ cs fuel p, DataW.trod (fun _ => ()) P w 0 (fun _ => true) false fuel t cs = some (d, p) → 0 < cs.length) :
    ∃ cs fuel p el, w.heap[g]? = some (.cells cs el (0, 0)) ∧ DataW.trod (fun _ => ()) P w 0 (fun _ => true) false fuel t cs.toList = some (d, p) ∧
      (∀ (off : Nat) u v, off < cs.size → (w.cell? ⟨g, off, none⟩ = some (.iface u v) → Value.okWide P w .any 0 u v)) ∧ ∀ b off, MemPlace.cell b off ∈ p → ∃ c t, w.heap[b]? = some (.cells c t (0, 0)) := by
  obtain ⟨ps, hl, _, hrows⟩ := h
  obtain ⟨g', t', cs, fuel, p, h1, h2, h3, h4, h5, h7⟩ := laid_mem hl n d hm
  obtain rfl := Option.some.inj (hg.symm.trans h1)
  obtain rfl := Option.some.inj (ht.symm.trans h2)
  have hlen : 0 < cs.size := by
    have := hpos _ _ _ h4
    simpa using this
  obtain ⟨⟨c, el, hc⟩, _⟩ := hrows g 0 (h5 _ (MemPlace.mem_row.2 ⟨0, hlen, by simp⟩))
  have : cs = c := by
    unfold World.var? at h3
    rw [h1, Option.bind_some, hc] at h3
    simpa using h3.symm
  subst this
  exact ⟨cs, fuel, p, el, hc, h4, fun off u v ho => (hrows g off (h5 _ (MemPlace.mem_row.2 ⟨off, ho, by simp⟩))).2 u v, fun b off hb => (hrows b off (h7 _ hb)).1⟩

theorem cells_of_strs {P : Program} {w : World} {fuel : Nat} {t e : TypeId} {n : Nat} {cs : List Value} {ss : List (List UInt8)} {p : List MemPlace}
    (ht : P.underlying t = some (.array n e)) (he : P.underlying e = some .string) (hce : P.cellsOf e = 1) (hct : P.cellsOf t = n)
    (h : DataW.trod (fun _ => ()) P w 0 (fun _ => true) false fuel t cs = some (.agg (ss.map fun s => .lit (.string s)), p)) : cs = ss.map fun s => Value.string ⟨s.toArray⟩ := by
  obtain ⟨xs, m, _, hx, hl, hn, hi⟩ := DataW.trod_array ht h
  simp only [Prod.mk.injEq, DataW.agg.injEq] at hx
  have hlen : cs.length = ss.length := by
    have := congrArg List.length hx.1
    simp only [List.length_map] at this
    rw [hl, hct, ← hn, ← this]
  apply List.ext_getElem?
  intro i
  by_cases hlt : i < n
  · have h1 := hi i hlt
    rw [hce, Nat.mul_one] at h1
    have hic : i < cs.length := by rw [hl, hct]; exact hlt
    have htk : (cs.drop i).take 1 = [cs[i]] := by
      rw [List.drop_eq_getElem_cons hic]; rfl
    rw [htk] at h1
    have hix : i < xs.length := by rw [hn]; exact hlt
    rw [List.getElem?_eq_getElem hix] at h1
    obtain ⟨s, hs1, hs2, _⟩ := DataW.trod_string he h1
    simp only [List.cons.injEq, and_true] at hs1
    have h2 : (xs.map (·.1))[i]? = (ss.map fun s => (DataW.lit (.string s) : DataW Unit))[i]? := by rw [← hx.1]
    have his : i < ss.length := by omega
    rw [List.getElem?_map, List.getElem?_map, List.getElem?_eq_getElem hix, List.getElem?_eq_getElem his, hs2] at h2
    simp only [Option.map_some, Option.some.injEq, DataW.lit.injEq, Lit.string.injEq] at h2
    rw [List.getElem?_eq_getElem hic, List.getElem?_map, List.getElem?_eq_getElem his, hs1, ← h2]
    rfl
  · rw [List.getElem?_eq_none (by rw [hl, hct]; omega), List.getElem?_eq_none (by simp; omega)]

set_option maxRecDepth 1000000 in
theorem rowErr (u : TypeId) (h : Tryz.prog.typeName? 3 u = some "*errors.errorString") : u = 792 :=
  typeName_ptr_named (nm := "errors.errorString") tyP_eq tyN_eq (by decide) u (by rw [star]; exact h)
theorem oneE : Tryz.prog.cellsOf 794 = 1 := by kernel_rfl

def strsOf (l : List Value) : List (List UInt8) := l.map fun v => match v with
  | .string s => s.data.toList
  | _ => []
theorem wordsBack : ((strsOf wordsC).map fun s => Value.string ⟨s.toArray⟩) = wordsC := by kernel_rfl
theorem namesBack : ((strsOf namesC).map fun s => Value.string ⟨s.toArray⟩) = namesC := by kernel_rfl
def tabZ : List Int := [1, 10, 100, 1000, 10000, 100000, 1000000, 10000000, 100000000, 1000000000, 10000000000, 100000000000, 1000000000000, 10000000000000, 100000000000000, 1000000000000000, 10000000000000000, 100000000000000000, 1000000000000000000, 10000000000000000000]

set_option maxRecDepth 100000 in
/-- an error that is laid: where it lies, and what it says -/
theorem err_at {L : List (String × DataW Unit)} {W : World} {n : String} {g : Nat} {bytes : List UInt8} (hm : laidMet Tryz.prog L W) (hmem : (n, (DataW.iface "*errors.errorString" (.ptr (.agg [.lit (.string bytes)])) : DataW Unit)) ∈ L)
    (hg : Tryz.prog.globalNamed n = some g) (ht : (Tryz.prog.globals[g]?).map (·.type) = some 31) : ∃ b o, ErrAt1 W g b o ∧ ∃ s, W.cell? ⟨b, o, none⟩ = some (.string s) ∧ s.data.toList = bytes := by
  obtain ⟨cs, fuel, p, el, hc, htr, hok, hpl⟩ := laid_row hm hmem hg ht (fun cs fuel p h => by
    obtain ⟨_, u, v, rfl, _⟩ := iface_of_trod Tryz.underlying31 h
    simp)
  obtain ⟨l⟩ := cs
  obtain ⟨a, s, hl, hcell, hs, _, hp⟩ := errorString_of_trod Tryz.underlying31 rowErr Tryz.underlying792 Tryz.underlying794 rfl rfl Tryz.underlying9 oneE oneS htr (fun u v e => by
    simp only at e
    subst e
    exact hok 0 u v (by simp) (by simp [World.cell?, hc]))
  simp only at hl
  subst hl
  have hsp := World.cell?_spot hcell
  obtain ⟨b, o, sp⟩ := a
  simp only at hsp
  subst hsp
  obtain ⟨c, t, hb⟩ := hpl b o (by rw [hp]; exact MemPlace.mem_row.2 ⟨0, by decide, by simp⟩)
  exact ⟨b, o, ⟨⟨el, hc⟩, c, t, hb⟩, s, hcell, hs⟩
end Go.Proofs.YtnamakmnlagpgaaGreatDoor

namespace Go.Proofs.YtnamakmnlagpgaaGreatDoor
open Go Go.ChangeShapes Go.WideShapes Go.ChangeAt Go.RowKit

def errB : List (List UInt8) := [[97, 32, 110, 117, 109, 98, 101, 114, 32, 105, 115, 32, 111, 117, 116, 32, 111, 102, 32, 105, 116, 115, 32, 114, 97, 110, 103, 101], [115, 111, 109, 101, 116, 104, 105, 110, 103, 32, 105, 115, 32, 109, 105, 115, 115, 105, 110, 103, 32, 97, 116, 32, 116, 104, 101, 32, 101, 110, 100], [116, 104, 101, 114, 101, 32, 105, 115, 32, 109, 111, 114, 101, 32, 116, 104, 97, 110, 32, 109, 97, 121, 32, 98, 101], [105, 116, 32, 105, 115, 32, 110, 111, 32, 118, 97, 114, 105, 110, 116], [105, 116, 32, 105, 115, 32, 110, 111, 32, 116, 97, 103], [116, 104, 101, 114, 101, 32, 97, 114, 101, 32, 110, 111, 32, 103, 114, 111, 117, 112, 115], [105, 116, 32, 105, 115, 32, 110, 111, 32, 85, 84, 70, 45, 56], [105, 116, 32, 103, 111, 101, 115, 32, 116, 111, 111, 32, 100, 101, 101, 112], [105, 116, 32, 105, 115, 32, 110, 111, 116, 32, 111, 102, 32, 105, 116, 115, 32, 102, 111, 114, 109], [116, 104, 101, 114, 101, 32, 105, 115, 32, 110, 111, 32, 115, 117, 99, 104, 32, 110, 97, 109, 101], [105, 116, 32, 105, 115, 32, 116, 104, 101, 114, 101, 32, 97, 108, 114, 101, 97, 100, 121], [105, 116, 32, 105, 115, 32, 111, 102, 32, 97, 110, 111, 116, 104, 101, 114, 32, 107, 105, 110, 100], [105, 116, 32, 105, 115, 32, 110, 111, 116, 32, 119, 104, 97, 116, 32, 105, 116, 32, 119, 97, 115], [116, 104, 101, 114, 101, 32, 105, 115, 32, 110, 111, 110, 101], [116, 104, 101, 114, 101, 32, 105, 115, 32, 110, 111, 32, 109, 111, 114, 101, 32, 114, 111, 111, 109], [105, 116, 32, 99, 97, 110, 32, 110, 111, 116, 32, 98, 101, 32, 100, 111, 110, 101, 32, 105, 110, 32, 116, 104, 105, 115, 32, 115, 116, 97, 116, 101], [116, 104, 101, 32, 112, 111, 119, 101, 114, 32, 105, 115, 32, 103, 111, 110, 101], [116, 104, 101, 32, 115, 117, 109, 32, 105, 115, 32, 110, 111, 116, 32, 114, 105, 103, 104, 116], [98, 111, 116, 104, 32, 115, 105, 100, 101, 115, 32, 99, 104, 97, 110, 103, 101, 100, 32, 105, 116]]
theorem errB_inj : ∀ i, i < 19 → ∀ j, j < 19 → errB.getD i [] = errB.getD j [] → i = j := by decide +kernel
theorem gErr0 : Tryz.prog.globalNamed "redline/api.ErrRange" = some 3 := by kernel_rfl
theorem tErr0 : (Tryz.prog.globals[3]?).map (·.type) = some 31 := by kernel_rfl
theorem gErr1 : Tryz.prog.globalNamed "redline/api.ErrShort" = some 4 := by kernel_rfl
theorem tErr1 : (Tryz.prog.globals[4]?).map (·.type) = some 31 := by kernel_rfl
theorem gErr2 : Tryz.prog.globalNamed "redline/api.ErrLong" = some 5 := by kernel_rfl
theorem tErr2 : (Tryz.prog.globals[5]?).map (·.type) = some 31 := by kernel_rfl
theorem gErr3 : Tryz.prog.globalNamed "redline/api.ErrVarint" = some 6 := by kernel_rfl
theorem tErr3 : (Tryz.prog.globals[6]?).map (·.type) = some 31 := by kernel_rfl
theorem gErr4 : Tryz.prog.globalNamed "redline/api.ErrTag" = some 7 := by kernel_rfl
theorem tErr4 : (Tryz.prog.globals[7]?).map (·.type) = some 31 := by kernel_rfl
theorem gErr5 : Tryz.prog.globalNamed "redline/api.ErrGroup" = some 8 := by kernel_rfl
theorem tErr5 : (Tryz.prog.globals[8]?).map (·.type) = some 31 := by kernel_rfl
theorem gErr6 : Tryz.prog.globalNamed "redline/api.ErrRune" = some 9 := by kernel_rfl
theorem tErr6 : (Tryz.prog.globals[9]?).map (·.type) = some 31 := by kernel_rfl
theorem gErr7 : Tryz.prog.globalNamed "redline/api.ErrDepth" = some 10 := by kernel_rfl
theorem tErr7 : (Tryz.prog.globals[10]?).map (·.type) = some 31 := by kernel_rfl
theorem gErr8 : Tryz.prog.globalNamed "redline/api.ErrForm" = some 11 := by kernel_rfl
theorem tErr8 : (Tryz.prog.globals[11]?).map (·.type) = some 31 := by kernel_rfl
theorem gErr9 : Tryz.prog.globalNamed "redline/api.ErrName" = some 1 := by kernel_rfl
theorem tErr9 : (Tryz.prog.globals[1]?).map (·.type) = some 31 := by kernel_rfl
theorem gErr10 : Tryz.prog.globalNamed "redline/api.ErrDup" = some 12 := by kernel_rfl
theorem tErr10 : (Tryz.prog.globals[12]?).map (·.type) = some 31 := by kernel_rfl
theorem gErr11 : Tryz.prog.globalNamed "redline/api.ErrKind" = some 13 := by kernel_rfl
theorem tErr11 : (Tryz.prog.globals[13]?).map (·.type) = some 31 := by kernel_rfl
theorem gErr12 : Tryz.prog.globalNamed "redline/api.ErrClash" = some 14 := by kernel_rfl
theorem tErr12 : (Tryz.prog.globals[14]?).map (·.type) = some 31 := by kernel_rfl
theorem gErr13 : Tryz.prog.globalNamed "redline/api.ErrNone" = some 15 := by kernel_rfl
theorem tErr13 : (Tryz.prog.globals[15]?).map (·.type) = some 31 := by kernel_rfl
theorem gErr14 : Tryz.prog.globalNamed "redline/api.ErrFull" = some 16 := by kernel_rfl
theorem tErr14 : (Tryz.prog.globals[16]?).map (·.type) = some 31 := by kernel_rfl
theorem gErr15 : Tryz.prog.globalNamed "redline/api.ErrState" = some 17 := by kernel_rfl
theorem tErr15 : (Tryz.prog.globals[17]?).map (·.type) = some 31 := by kernel_rfl
theorem gErr16 : Tryz.prog.globalNamed "redline/api.ErrPower" = some 18 := by kernel_rfl
theorem tErr16 : (Tryz.prog.globals[18]?).map (·.type) = some 31 := by kernel_rfl
theorem gErr17 : Tryz.prog.globalNamed "redline/api.ErrSum" = some 19 := by kernel_rfl
theorem tErr17 : (Tryz.prog.globals[19]?).map (·.type) = some 31 := by kernel_rfl
theorem gErr18 : Tryz.prog.globalNamed "redline/api.ErrConflict" = some 0 := by kernel_rfl
theorem tErr18 : (Tryz.prog.globals[0]?).map (·.type) = some 31 := by kernel_rfl
theorem gWords : Tryz.prog.globalNamed "redline/script.words" = some 2 := by kernel_rfl
theorem gNames : Tryz.prog.globalNamed "redline/kinds.names" = some 24 := by kernel_rfl
theorem gTab : Tryz.prog.globalNamed "internal/strconv.uint64pow10" = some 21 := by kernel_rfl

theorem errs_each {W : World} (h : laidMet Tryz.prog Rows.reportResultsRow.laid W) : ∀ i, i < 19 → ∃ b o, ErrAt1 W (gEL.getD i 0) b o ∧ ∃ s, W.cell? ⟨b, o, none⟩ = some (.string s) ∧ s.data.toList = errB.getD i [] := by
  intro i hi
  match i, hi with
  | 0, _ => exact err_at (bytes := [97, 32, 110, 117, 109, 98, 101, 114, 32, 105, 115, 32, 111, 117, 116, 32, 111, 102, 32, 105, 116, 115, 32, 114, 97, 110, 103, 101]) h (List.mem_of_getElem? (l := Rows.reportResultsRow.laid) (i := 3) (a := ("redline/api.ErrRange", Rows.laid_redline_api_ErrRange)) rfl) gErr0 tErr0
  | 1, _ => exact err_at (bytes := [115, 111, 109, 101, 116, 104, 105, 110, 103, 32, 105, 115, 32, 109, 105, 115, 115, 105, 110, 103, 32, 97, 116, 32, 116, 104, 101, 32, 101, 110, 100]) h (List.mem_of_getElem? (l := Rows.reportResultsRow.laid) (i := 4) (a := ("redline/api.ErrShort", Rows.laid_redline_api_ErrShort)) rfl) gErr1 tErr1
  | 2, _ => exact err_at (bytes := [116, 104, 101, 114, 101, 32, 105, 115, 32, 109, 111, 114, 101, 32, 116, 104, 97, 110, 32, 109, 97, 121, 32, 98, 101]) h (List.mem_of_getElem? (l := Rows.reportResultsRow.laid) (i := 5) (a := ("redline/api.ErrLong", Rows.laid_redline_api_ErrLong)) rfl) gErr2 tErr2
  | 3, _ => exact err_at (bytes := [105, 116, 32, 105, 115, 32, 110, 111, 32, 118, 97, 114, 105, 110, 116]) h (List.mem_of_getElem? (l := Rows.reportResultsRow.laid) (i := 6) (a := ("redline/api.ErrVarint", Rows.laid_redline_api_ErrVarint)) rfl) gErr3 tErr3
  | 4, _ => exact err_at (bytes := [105, 116, 32, 105, 115, 32, 110, 111, 32, 116, 97, 103]) h (List.mem_of_getElem? (l := Rows.reportResultsRow.laid) (i := 7) (a := ("redline/api.ErrTag", Rows.laid_redline_api_ErrTag)) rfl) gErr4 tErr4
  | 5, _ => exact err_at (bytes := [116, 104, 101, 114, 101, 32, 97, 114, 101, 32, 110, 111, 32, 103, 114, 111, 117, 112, 115]) h (List.mem_of_getElem? (l := Rows.reportResultsRow.laid) (i := 8) (a := ("redline/api.ErrGroup", Rows.laid_redline_api_ErrGroup)) rfl) gErr5 tErr5
  | 6, _ => exact err_at (bytes := [105, 116, 32, 105, 115, 32, 110, 111, 32, 85, 84, 70, 45, 56]) h (List.mem_of_getElem? (l := Rows.reportResultsRow.laid) (i := 9) (a := ("redline/api.ErrRune", Rows.laid_redline_api_ErrRune)) rfl) gErr6 tErr6
  | 7, _ => exact err_at (bytes := [105, 116, 32, 103, 111, 101, 115, 32, 116, 111, 111, 32, 100, 101, 101, 112]) h (List.mem_of_getElem? (l := Rows.reportResultsRow.laid) (i := 10) (a := ("redline/api.ErrDepth", Rows.laid_redline_api_ErrDepth)) rfl) gErr7 tErr7
  | 8, _ => exact err_at (bytes := [105, 116, 32, 105, 115, 32, 110, 111, 116, 32, 111, 102, 32, 105, 116, 115, 32, 102, 111, 114, 109]) h (List.mem_of_getElem? (l := Rows.reportResultsRow.laid) (i := 11) (a := ("redline/api.ErrForm", Rows.laid_redline_api_ErrForm)) rfl) gErr8 tErr8
  | 9, _ => exact err_at (bytes := [116, 104, 101, 114, 101, 32, 105, 115, 32, 110, 111, 32, 115, 117, 99, 104, 32, 110, 97, 109, 101]) h (List.mem_of_getElem? (l := Rows.reportResultsRow.laid) (i := 12) (a := ("redline/api.ErrName", Rows.laid_redline_api_ErrName)) rfl) gErr9 tErr9
  | 10, _ => exact err_at (bytes := [105, 116, 32, 105, 115, 32, 116, 104, 101, 114, 101, 32, 97, 108, 114, 101, 97, 100, 121]) h (List.mem_of_getElem? (l := Rows.reportResultsRow.laid) (i := 13) (a := ("redline/api.ErrDup", Rows.laid_redline_api_ErrDup)) rfl) gErr10 tErr10
  | 11, _ => exact err_at (bytes := [105, 116, 32, 105, 115, 32, 111, 102, 32, 97, 110, 111, 116, 104, 101, 114, 32, 107, 105, 110, 100]) h (List.mem_of_getElem? (l := Rows.reportResultsRow.laid) (i := 14) (a := ("redline/api.ErrKind", Rows.laid_redline_api_ErrKind)) rfl) gErr11 tErr11
  | 12, _ => exact err_at (bytes := [105, 116, 32, 105, 115, 32, 110, 111, 116, 32, 119, 104, 97, 116, 32, 105, 116, 32, 119, 97, 115]) h (List.mem_of_getElem? (l := Rows.reportResultsRow.laid) (i := 15) (a := ("redline/api.ErrClash", Rows.laid_redline_api_ErrClash)) rfl) gErr12 tErr12
  | 13, _ => exact err_at (bytes := [116, 104, 101, 114, 101, 32, 105, 115, 32, 110, 111, 110, 101]) h (List.mem_of_getElem? (l := Rows.reportResultsRow.laid) (i := 16) (a := ("redline/api.ErrNone", Rows.laid_redline_api_ErrNone)) rfl) gErr13 tErr13
  | 14, _ => exact err_at (bytes := [116, 104, 101, 114, 101, 32, 105, 115, 32, 110, 111, 32, 109, 111, 114, 101, 32, 114, 111, 111, 109]) h (List.mem_of_getElem? (l := Rows.reportResultsRow.laid) (i := 17) (a := ("redline/api.ErrFull", Rows.laid_redline_api_ErrFull)) rfl) gErr14 tErr14
  | 15, _ => exact err_at (bytes := [105, 116, 32, 99, 97, 110, 32, 110, 111, 116, 32, 98, 101, 32, 100, 111, 110, 101, 32, 105, 110, 32, 116, 104, 105, 115, 32, 115, 116, 97, 116, 101]) h (List.mem_of_getElem? (l := Rows.reportResultsRow.laid) (i := 18) (a := ("redline/api.ErrState", Rows.laid_redline_api_ErrState)) rfl) gErr15 tErr15
  | 16, _ => exact err_at (bytes := [116, 104, 101, 32, 112, 111, 119, 101, 114, 32, 105, 115, 32, 103, 111, 110, 101]) h (List.mem_of_getElem? (l := Rows.reportResultsRow.laid) (i := 19) (a := ("redline/api.ErrPower", Rows.laid_redline_api_ErrPower)) rfl) gErr16 tErr16
  | 17, _ => exact err_at (bytes := [116, 104, 101, 32, 115, 117, 109, 32, 105, 115, 32, 110, 111, 116, 32, 114, 105, 103, 104, 116]) h (List.mem_of_getElem? (l := Rows.reportResultsRow.laid) (i := 20) (a := ("redline/api.ErrSum", Rows.laid_redline_api_ErrSum)) rfl) gErr17 tErr17
  | 18, _ => exact err_at (bytes := [98, 111, 116, 104, 32, 115, 105, 100, 101, 115, 32, 99, 104, 97, 110, 103, 101, 100, 32, 105, 116]) h (List.mem_of_getElem? (l := Rows.reportResultsRow.laid) (i := 21) (a := ("redline/api.ErrConflict", Rows.laid_redline_api_ErrConflict)) rfl) gErr18 tErr18
  | n + 19, h => omega
theorem errs_of {W : World} (h : laidMet Tryz.prog Rows.reportResultsRow.laid W) : ∃ eb eo, ErrsAt W eb eo := by
  have each := errs_each h
  have each' : ∀ i, ∃ p : Nat × Nat, i < 19 → ErrAt1 W (gEL.getD i 0) p.1 p.2 ∧ ∃ s, W.cell? ⟨p.1, p.2, none⟩ = some (.string s) ∧ s.data.toList = errB.getD i [] := fun i => by
    by_cases hi : i < 19
    · obtain ⟨b, o, hb⟩ := each i hi; exact ⟨(b, o), fun _ => hb⟩
    · exact ⟨(0, 0), fun h => absurd h hi⟩
  let f : Nat → Nat × Nat := fun i => Classical.choose (each' i)
  have hf : ∀ i, i < 19 → ErrAt1 W (gEL.getD i 0) (f i).1 (f i).2 ∧ ∃ s, W.cell? ⟨(f i).1, (f i).2, none⟩ = some (.string s) ∧ s.data.toList = errB.getD i [] := fun i => Classical.choose_spec (each' i)
  refine ⟨fun i => (f i).1, fun i => (f i).2, fun i hi => (hf i hi).1, fun i j hi hj hne he => hne ?_⟩
  obtain ⟨_, s, h1, h2⟩ := hf i hi
  obtain ⟨_, s', h1', h2'⟩ := hf j hj
  simp only [Addr.mk.injEq, and_true] at he
  rw [he.1, he.2, h1'] at h1
  simp only [Option.some.injEq, Value.string.injEq] at h1
  refine errB_inj i hi j hj ?_
  rw [← h2, ← h2', h1]
theorem wordsEq : (Rows.laid_redline_script_words : DataW Unit) = .agg ((strsOf wordsC).map fun s => .lit (.string s)) := by kernel_rfl
theorem namesEq : (Rows.laid_redline_kinds_names : DataW Unit) = .agg ((strsOf namesC).map fun s => .lit (.string s)) := by kernel_rfl
theorem tabEq : (Rows.laid_internal_strconv_uint64pow10 : DataW Unit) = Lib.tabData .u64 tabZ := by kernel_rfl
theorem pow10Z : Lib.pow10Tab = tabZ := by kernel_rfl
theorem tWords : (Tryz.prog.globals[2]?).map (·.type) = some 77 := by kernel_rfl
theorem cells77 : Tryz.prog.cellsOf 77 = 12 := by kernel_rfl
theorem tNames : (Tryz.prog.globals[24]?).map (·.type) = some 658 := by kernel_rfl
theorem cells658 : Tryz.prog.cellsOf 658 = 18 := by kernel_rfl
theorem tTab : (Tryz.prog.globals[21]?).map (·.type) = some 236 := by kernel_rfl
theorem cells236 : Tryz.prog.cellsOf 236 = 20 := by kernel_rfl
set_option maxRecDepth 100000 in
theorem words_of {W : World} (h : laidMet Tryz.prog Rows.reportResultsRow.laid W) : WordsAt W := by
  constructor
  · obtain ⟨⟨cs⟩, fuel, p, el, hc, htr, _, _⟩ := laid_row h (List.mem_of_getElem? (l := Rows.reportResultsRow.laid) (i := 25) (a := ("redline/script.words", Rows.laid_redline_script_words)) rfl) gWords tWords (fun cs fuel p h => by
      obtain ⟨_, _, _, _, hl, _⟩ := DataW.trod_array Tryz.underlying77 h
      rw [hl, cells77]; decide)
    rw [wordsEq] at htr
    have := cells_of_strs Tryz.underlying77 Tryz.underlying9 oneS cells77 htr
    rw [wordsBack] at this
    simp only at this
    subst this
    exact ⟨el, hc⟩
  · obtain ⟨⟨cs⟩, fuel, p, el, hc, htr, _, _⟩ := laid_row h (List.mem_of_getElem? (l := Rows.reportResultsRow.laid) (i := 22) (a := ("redline/kinds.names", Rows.laid_redline_kinds_names)) rfl) gNames tNames (fun cs fuel p h => by
      obtain ⟨_, _, _, _, hl, _⟩ := DataW.trod_array Tryz.underlying658 h
      rw [hl, cells658]; decide)
    rw [namesEq] at htr
    have := cells_of_strs Tryz.underlying658 Tryz.underlying9 oneS cells658 htr
    rw [namesBack] at this
    simp only at this
    subst this
    exact ⟨el, hc⟩
theorem cellsU64 : Tryz.prog.cellsOf 154 = 1 := by kernel_rfl
set_option maxRecDepth 100000 in
theorem tab_of {W : World} (h : laidMet Tryz.prog Rows.reportResultsRow.laid W) : Tab W := by
  obtain ⟨⟨cs⟩, fuel, p, el, hc, htr, _, _⟩ := laid_row h (List.mem_of_getElem? (l := Rows.reportResultsRow.laid) (i := 2) (a := ("internal/strconv.uint64pow10", Rows.laid_internal_strconv_uint64pow10)) rfl) gTab tTab (fun cs fuel p h => by
    obtain ⟨_, _, _, _, hl, _⟩ := DataW.trod_array Tryz.underlying236 h
    rw [hl, cells236]; decide)
  rw [tabEq] at htr
  have := Lib.cells_of_tab Tryz.underlying236 Tryz.underlying154 cellsU64 cells236 htr
  simp only at this
  subst this
  unfold Tab Lib.TabIs World.var?
  rw [gTab, Option.bind_some, hc, pow10Z]
theorem start_of {W : World} (h : laidMetH Tryz.prog Rows.reportResultsRow.laid W) : (∃ eb eo, ErrsAt W eb eo) ∧ WordsAt W ∧ Tab W := by
  rw [MakeChecks.laidMetH_plain _ _ _ (by kernel_rfl)] at h
  exact ⟨errs_of h, words_of h, tab_of h⟩
end Go.Proofs.YtnamakmnlagpgaaGreatDoor
