import Derived.Test.YtnjpoodfaendkaaGreatDoorOpen
import Derived.Test.YtnjpoodfaendkaaGreatDoorTy
import Derived.Lib.LaidTab
set_option linter.unusedVariables false
set_option linter.unusedSimpArgs false
set_option linter.unusedVariables false
namespace Go.Proofs.YtnjpoodfaendkaaGreatDoor
open Go.ChangeShapes Go.WideShapes Go.ChangeAt Go.RowKit

theorem laid_mem {P : Program} {w : World} : ∀ {l : List (String × DataW Unit)} {ps : List MemPlace}, DataW.LaidVars P w l ps → ∀ n d, (n, d) ∈ l →
    ∃ g t cs fuel p, P.globalNamed n = some g ∧ (P.globals[g]?).map (·.type) = some t ∧ w.var? P n = some cs ∧ DataW.trod (fun _ => ()) P w 0 (fun _ => true) false fuel t cs.toList = some (d, p) ∧ ∀ x ∈ MemPlace.row ⟨g, 0, none⟩ cs.size, x ∈ ps
  | [], ps, _, n, d, h => by cases h
  | (n0, d0) :: r, ps, hl, n, d, h => by
    obtain ⟨g, t, cs, fuel, p, q, h1, h2, h3, h4, h5, h6⟩ := hl
    rcases List.mem_cons.1 h with e | h
    · simp only [Prod.mk.injEq] at e
      obtain ⟨rfl, rfl⟩ := e
      exact ⟨g, t, cs, fuel, p, h1, h2, h3, h4, fun x hx => by rw [h6]; simp [hx]⟩
    · obtain ⟨g', t', cs', fuel', p', a1, a2, a3, a4, a5⟩ := laid_mem h5 n d h
      exact ⟨g', t', cs', fuel', p', a1, a2, a3, a4, fun x hx => by rw [h6]; simp [a5 x hx]⟩

/-- the whole row of a listed variable -/
theorem laid_row {P : Program} {w : World} {l : List (String × DataW Unit)} (h : laidMet P l w) {n : String} {d : DataW Unit} (hm : (n, d) ∈ l) {g : Nat} {t : TypeId} (hg : P.globalNamed n = some g) (ht : (P.globals[g]?).map (·.type) = some t) (hpos : ∀ cs fuel p, DataW.trod (fun _ => ()) P w 0 (fun _ => true) false fuel t cs = some (d, p) → 0 < cs.length) :
    ∃ cs fuel p el, w.heap[g]? = some (.cells cs el (0, 0)) ∧ DataW.trod (fun _ => ()) P w 0 (fun _ => true) false fuel t cs.toList = some (d, p) ∧
      ∀ (off : Nat) u v, off < cs.size → w.cell? ⟨g, off, none⟩ = some (.iface u v) → Value.okWide P w .any 0 u v := by
  obtain ⟨ps, hl, _, hrows⟩ := h
  obtain ⟨g', t', cs, fuel, p, h1, h2, h3, h4, h5⟩ := laid_mem hl n d hm
  obtain rfl := Option.some.inj (hg.symm.trans h1)
  obtain rfl := Option.some.inj (ht.symm.trans h2)
  have hlen : 0 < cs.size := by
    have := hpos _ _ _ h4
    simpa using this
  obtain ⟨⟨c, el, hc⟩, _⟩ := hrows g 0 (h5 _ (MemPlace.mem_row.2 ⟨0, hlen, by simp⟩))
  have : cs = c := by
    unfold World.var? at h3
    rw [h1, Option.bind_some, hc] at h3
    simpa using h3.symm
  subst this
  exact ⟨cs, fuel, p, el, hc, h4, fun off u v ho => (hrows g off (h5 _ (MemPlace.mem_row.2 ⟨off, ho, by simp⟩))).2 u v⟩

theorem cells_of_strs {P : Program} {w : World} {fuel : Nat} {t e : TypeId} {n : Nat} {cs : List Value} {ss : List (List UInt8)} {p : List MemPlace}
    (ht : P.underlying t = some (.array n e)) (he : P.underlying e = some .string) (hce : P.cellsOf e = 1) (hct : P.cellsOf t = n)
    (h : DataW.trod (fun _ => ()) P w 0 (fun _ => true) false fuel t cs = some (.agg (ss.map fun s => .lit (.string s)), p)) : cs = ss.map fun s => Value.string ⟨s.toArray⟩ := by
  obtain ⟨xs, m, _, hx, hl, hn, hi⟩ := DataW.trod_array ht h
  simp only [Prod.mk.injEq, DataW.agg.injEq] at hx
  have hlen : cs.length = ss.length := by
    have := congrArg List.length hx.1
    simp only [List.length_map] at this
    rw [hl, hct, ← hn, ← this]
  apply List.ext_getElem?
  intro i
  by_cases hlt : i < n
  · have h1 := hi i hlt
    rw [hce, Nat.mul_one] at h1
    have hic : i < cs.length := by rw [hl, hct]; exact hlt
    have htk : (cs.drop i).take 1 = [cs[i]] := by
      rw [List.drop_eq_getElem_cons hic]; rfl
    rw [htk] at h1
    have hix : i < xs.length := by rw [hn]; exact hlt
    rw [List.getElem?_eq_getElem hix] at h1
    obtain ⟨s, hs1, hs2, _⟩ := DataW.trod_string he h1
    simp only [List.cons.injEq, and_true] at hs1
    have h2 : (xs.map (·.1))[i]? = (ss.map fun s => (DataW.lit (.string s) : DataW Unit))[i]? := by rw [← hx.1]
    have his : i < ss.length := by omega
    rw [List.getElem?_map, List.getElem?_map, List.getElem?_eq_getElem hix, List.getElem?_eq_getElem his, hs2] at h2
    simp only [Option.map_some, Option.some.injEq, DataW.lit.injEq, Lit.string.injEq] at h2
    rw [List.getElem?_eq_getElem hic, List.getElem?_map, List.getElem?_eq_getElem his, hs1, ← h2]
    rfl
  · rw [List.getElem?_eq_none (by rw [hl, hct]; omega), List.getElem?_eq_none (by simp; omega)]

set_option maxRecDepth 1000000 in
theorem row796 (u : TypeId) (h : Tryz.prog.typeName? 3 u = some "*errors.errorString") : u = 796 :=
  typeName_ptr_named (nm := "errors.errorString") tyP_eq tyN_eq (by decide) u (by rw [star]; exact h)

theorem gWords : Tryz.prog.globalNamed "redline/script.words" = some 3 := by kernel_rfl
theorem gNames : Tryz.prog.globalNamed "redline/kinds.names" = some 24 := by kernel_rfl
theorem gNone : Tryz.prog.globalNamed "redline/api.ErrNone" = some 15 := by kernel_rfl
theorem gSum : Tryz.prog.globalNamed "redline/api.ErrSum" = some 19 := by kernel_rfl
end Go.Proofs.YtnjpoodfaendkaaGreatDoor

set_option linter.unusedVariables false
namespace Go.Proofs.YtnjpoodfaendkaaGreatDoor
open Go.ChangeShapes Go.WideShapes Go.ChangeAt Go.RowKit

theorem tWords : (Tryz.prog.globals[3]?).map (·.type) = some 135 := by kernel_rfl
theorem tNames : (Tryz.prog.globals[24]?).map (·.type) = some 665 := by kernel_rfl
theorem tNone : (Tryz.prog.globals[15]?).map (·.type) = some 43 := by kernel_rfl
theorem tSum : (Tryz.prog.globals[19]?).map (·.type) = some 43 := by kernel_rfl
theorem tTab : (Tryz.prog.globals[20]?).map (·.type) = some 352 := by kernel_rfl
theorem cells135 : Tryz.prog.cellsOf 135 = 12 := by kernel_rfl
theorem cells665 : Tryz.prog.cellsOf 665 = 18 := by kernel_rfl
theorem cells352 : Tryz.prog.cellsOf 352 = 20 := by kernel_rfl
theorem cells211 : Tryz.prog.cellsOf 211 = 1 := by kernel_rfl
theorem cells798 : Tryz.prog.cellsOf 798 = 1 := by kernel_rfl

def strsOf (l : List Value) : List (List UInt8) := l.map fun v => match v with
  | .string s => s.data.toList
  | _ => []
theorem wordsEq : (Rows.laid_redline_script_words : DataW Unit) = .agg ((strsOf wordsC).map fun s => .lit (.string s)) := by kernel_rfl
theorem namesEq : (Rows.laid_redline_kinds_names : DataW Unit) = .agg ((strsOf namesC).map fun s => .lit (.string s)) := by kernel_rfl
theorem wordsBack : ((strsOf wordsC).map fun s => Value.string ⟨s.toArray⟩) = wordsC := by kernel_rfl
theorem namesBack : ((strsOf namesC).map fun s => Value.string ⟨s.toArray⟩) = namesC := by kernel_rfl
def tabZ : List Int := [1, 10, 100, 1000, 10000, 100000, 1000000, 10000000, 100000000, 1000000000, 10000000000, 100000000000, 1000000000000, 10000000000000, 100000000000000, 1000000000000000, 10000000000000000, 100000000000000000, 1000000000000000000, 10000000000000000000]
theorem tabEq : (Rows.laid_internal_strconv_uint64pow10 : DataW Unit) = Lib.tabData .u64 tabZ := by kernel_rfl
theorem tabBack : (tabZ.map fun z => Value.int .u64 z) = tabC := by kernel_rfl

set_option maxRecDepth 100000 in
theorem err_at {W : World} {n : String} {g : Nat} {bytes : List UInt8} (hm : laidMet Tryz.prog Rows.reportAuditsRow.laid W) (hmem : (n, (DataW.iface "*errors.errorString" (.ptr (.agg [.lit (.string bytes)])) : DataW Unit)) ∈ Rows.reportAuditsRow.laid)
    (hg : Tryz.prog.globalNamed n = some g) (ht : (Tryz.prog.globals[g]?).map (·.type) = some 43) : ∃ el b o, W.heap[g]? = some (.cells #[.iface 796 (.pointer (some ⟨b, o, none⟩))] el (0, 0)) := by
  obtain ⟨cs, fuel, p, el, hc, htr, hok⟩ := laid_row hm hmem hg ht (fun cs fuel p h => by
    obtain ⟨_, u, v, rfl, _⟩ := iface_of_trod Tryz.underlying43 h
    simp)
  obtain ⟨l⟩ := cs
  obtain ⟨a, s, hl, hcell, _⟩ := errorString_of_trod Tryz.underlying43 row796 Tryz.underlying796 Tryz.underlying798 rfl rfl Tryz.underlying9 cells798 cells9' htr (fun u v e => by
    simp only at e
    subst e
    exact hok 0 u v (by simp) (by simp [World.cell?, hc]))
  simp only at hl
  subst hl
  have hs := World.cell?_spot hcell
  obtain ⟨b, o, sp⟩ := a
  simp only at hs
  subst hs
  exact ⟨el, b, o, hc⟩

set_option maxRecDepth 100000 in
theorem start_of {W : World} (h : laidMetH Tryz.prog Rows.reportAuditsRow.laid W) : WordsAt W ∧ Tab20 W := by
  rw [MakeChecks.laidMetH_plain _ _ _ (by kernel_rfl)] at h
  refine ⟨⟨?_, ?_, ?_, ?_⟩, ?_⟩
  · obtain ⟨⟨cs⟩, fuel, p, el, hc, htr, _⟩ := laid_row h (List.mem_of_getElem? (l := Rows.reportAuditsRow.laid) (i := 25) (a := ("redline/script.words", Rows.laid_redline_script_words)) rfl) gWords tWords (fun cs fuel p h => by
      obtain ⟨_, _, _, _, hl, _⟩ := DataW.trod_array Tryz.underlying135 h
      rw [hl, cells135]; decide)
    rw [wordsEq] at htr
    have := cells_of_strs Tryz.underlying135 Tryz.underlying9 cells9' cells135 htr
    rw [wordsBack] at this
    simp only at this
    subst this
    exact ⟨el, hc⟩
  · obtain ⟨⟨cs⟩, fuel, p, el, hc, htr, _⟩ := laid_row h (List.mem_of_getElem? (l := Rows.reportAuditsRow.laid) (i := 22) (a := ("redline/kinds.names", Rows.laid_redline_kinds_names)) rfl) gNames tNames (fun cs fuel p h => by
      obtain ⟨_, _, _, _, hl, _⟩ := DataW.trod_array Tryz.underlying665 h
      rw [hl, cells665]; decide)
    rw [namesEq] at htr
    have := cells_of_strs Tryz.underlying665 Tryz.underlying9 cells9' cells665 htr
    rw [namesBack] at this
    simp only at this
    subst this
    exact ⟨el, hc⟩
  · exact err_at h (List.mem_of_getElem? (l := Rows.reportAuditsRow.laid) (i := 16) (a := ("redline/api.ErrNone", Rows.laid_redline_api_ErrNone)) rfl) gNone tNone
  · exact err_at h (List.mem_of_getElem? (l := Rows.reportAuditsRow.laid) (i := 20) (a := ("redline/api.ErrSum", Rows.laid_redline_api_ErrSum)) rfl) gSum tSum
  · obtain ⟨⟨cs⟩, fuel, p, el, hc, htr, _⟩ := laid_row h (List.mem_of_getElem? (l := Rows.reportAuditsRow.laid) (i := 2) (a := ("internal/strconv.uint64pow10", Rows.laid_internal_strconv_uint64pow10)) rfl) g20 tTab (fun cs fuel p h => by
      obtain ⟨_, _, _, _, hl, _⟩ := DataW.trod_array Tryz.underlying352 h
      rw [hl, cells352]; decide)
    rw [tabEq] at htr
    have := Lib.cells_of_tab Tryz.underlying352 Tryz.underlying211 cells211 cells352 htr
    rw [tabBack] at this
    simp only at this
    subst this
    exact ⟨el, _, hc⟩
end Go.Proofs.YtnjpoodfaendkaaGreatDoor
