/-
  NARROWER THAN 'FOR EVERY INPUT', by the rows' own cells (each row's printed sentence says how): ReportResults: laid.
  DERIVED. THE GIVEN ROWS OF THIS SEAT. 1 by the template 'for every input the law returns true; each argument reads behind the call as it read before'; 0 by the template 'total and deterministic' (their statements: YtnamakmnlagpgaaGreatDoorTotals.lean).
  GIVEN WITH THE SEED: the statements are not yours to turn. If you find one false, say at which input.
  Laid BY PROGRAM, IN A SANDBOX (cutbox-rows.mjs): the forced cells as the released guide's own fill.sh prints them over the translation 7ae8b49f145ec032… (all of the seat's roots in one cut). By AI agents, Wed Nov 11 2026. No macro, syntax, notation, axiom, sorry.
-/
import Derived.Test.YtnamakmnlagpgaaGreatDoorChecked
import GoSem.Claim
import GoSem.ClaimJoined
import GoSem.ClaimMapViews
import Derived.JoinedTies
import Derived.KernelRfl
namespace Go.Proofs.YtnamakmnlagpgaaGreatDoor
/- THE CELL 'sum', in the pinned program and in every row, IS THE sha256 OF THE DUMP (.gsa) THAT YtnamakmnlagpgaaGreatDoorProg.lean LOADS. Nothing in Lean hashes anything: it is a label: what it is worth is what the hold of that sum in a sandbox is worth. -/
noncomputable def Tryz.pinned : Pinned := { name := "ytnamakmnlagpgaagreatdoor", sum := "7ae8b49f145ec032c7313bdf845d7fa66b8da8e804ff572c508509bc3829e6b4", checked := Tryz.checked }
namespace Rows
def none {H : Type} : Left H := { results := [], args := [] }

/- WHAT THE LISTED PACKAGE-LEVEL VARIABLES READ AS WHEN THE CALL BEGINS. Each datum BY PROGRAM (the guide's laid-datum.mjs) off the statement by which the dump's own 'gosem.cut.vars' lays the variable. In a bare row this is a premise. The card (YtnamakmnlagpgaaGreatDoorCards.lean) ties it to the program's text. -/
def laid_math_bits_deBruijn32tab {H : Type} : DataW H := .agg [.lit (.int .u8 0), .lit (.int .u8 1), .lit (.int .u8 28), .lit (.int .u8 2), .lit (.int .u8 29), .lit (.int .u8 14), .lit (.int .u8 24), .lit (.int .u8 3), .lit (.int .u8 30), .lit (.int .u8 22), .lit (.int .u8 20), .lit (.int .u8 15), .lit (.int .u8 25), .lit (.int .u8 17), .lit (.int .u8 4), .lit (.int .u8 8), .lit (.int .u8 31), .lit (.int .u8 27), .lit (.int .u8 13), .lit (.int .u8 23), .lit (.int .u8 21), .lit (.int .u8 19), .lit (.int .u8 16), .lit (.int .u8 7), .lit (.int .u8 26), .lit (.int .u8 12), .lit (.int .u8 18), .lit (.int .u8 6), .lit (.int .u8 11), .lit (.int .u8 5), .lit (.int .u8 10), .lit (.int .u8 9)]
def laid_math_bits_deBruijn64tab {H : Type} : DataW H := .agg [.lit (.int .u8 0), .lit (.int .u8 1), .lit (.int .u8 56), .lit (.int .u8 2), .lit (.int .u8 57), .lit (.int .u8 49), .lit (.int .u8 28), .lit (.int .u8 3), .lit (.int .u8 61), .lit (.int .u8 58), .lit (.int .u8 42), .lit (.int .u8 50), .lit (.int .u8 38), .lit (.int .u8 29), .lit (.int .u8 17), .lit (.int .u8 4), .lit (.int .u8 62), .lit (.int .u8 47), .lit (.int .u8 59), .lit (.int .u8 36), .lit (.int .u8 45), .lit (.int .u8 43), .lit (.int .u8 51), .lit (.int .u8 22), .lit (.int .u8 53), .lit (.int .u8 39), .lit (.int .u8 33), .lit (.int .u8 30), .lit (.int .u8 24), .lit (.int .u8 18), .lit (.int .u8 12), .lit (.int .u8 5), .lit (.int .u8 63), .lit (.int .u8 55), .lit (.int .u8 48), .lit (.int .u8 27), .lit (.int .u8 60), .lit (.int .u8 41), .lit (.int .u8 37), .lit (.int .u8 16), .lit (.int .u8 46), .lit (.int .u8 35), .lit (.int .u8 44), .lit (.int .u8 21), .lit (.int .u8 52), .lit (.int .u8 32), .lit (.int .u8 23), .lit (.int .u8 11), .lit (.int .u8 54), .lit (.int .u8 26), .lit (.int .u8 40), .lit (.int .u8 15), .lit (.int .u8 34), .lit (.int .u8 20), .lit (.int .u8 31), .lit (.int .u8 10), .lit (.int .u8 25), .lit (.int .u8 14), .lit (.int .u8 19), .lit (.int .u8 9), .lit (.int .u8 13), .lit (.int .u8 8), .lit (.int .u8 7), .lit (.int .u8 6)]
def laid_internal_strconv_uint64pow10 {H : Type} : DataW H := .agg [.lit (.int .u64 1), .lit (.int .u64 10), .lit (.int .u64 100), .lit (.int .u64 1000), .lit (.int .u64 10000), .lit (.int .u64 100000), .lit (.int .u64 1000000), .lit (.int .u64 10000000), .lit (.int .u64 100000000), .lit (.int .u64 1000000000), .lit (.int .u64 10000000000), .lit (.int .u64 100000000000), .lit (.int .u64 1000000000000), .lit (.int .u64 10000000000000), .lit (.int .u64 100000000000000), .lit (.int .u64 1000000000000000), .lit (.int .u64 10000000000000000), .lit (.int .u64 100000000000000000), .lit (.int .u64 1000000000000000000), .lit (.int .u64 10000000000000000000)]
def laid_redline_api_ErrRange {H : Type} : DataW H := .iface "*errors.errorString" (.ptr (.agg [.lit (.string [97, 32, 110, 117, 109, 98, 101, 114, 32, 105, 115, 32, 111, 117, 116, 32, 111, 102, 32, 105, 116, 115, 32, 114, 97, 110, 103, 101])]))
def laid_redline_api_ErrShort {H : Type} : DataW H := .iface "*errors.errorString" (.ptr (.agg [.lit (.string [115, 111, 109, 101, 116, 104, 105, 110, 103, 32, 105, 115, 32, 109, 105, 115, 115, 105, 110, 103, 32, 97, 116, 32, 116, 104, 101, 32, 101, 110, 100])]))
def laid_redline_api_ErrLong {H : Type} : DataW H := .iface "*errors.errorString" (.ptr (.agg [.lit (.string [116, 104, 101, 114, 101, 32, 105, 115, 32, 109, 111, 114, 101, 32, 116, 104, 97, 110, 32, 109, 97, 121, 32, 98, 101])]))
def laid_redline_api_ErrVarint {H : Type} : DataW H := .iface "*errors.errorString" (.ptr (.agg [.lit (.string [105, 116, 32, 105, 115, 32, 110, 111, 32, 118, 97, 114, 105, 110, 116])]))
def laid_redline_api_ErrTag {H : Type} : DataW H := .iface "*errors.errorString" (.ptr (.agg [.lit (.string [105, 116, 32, 105, 115, 32, 110, 111, 32, 116, 97, 103])]))
def laid_redline_api_ErrGroup {H : Type} : DataW H := .iface "*errors.errorString" (.ptr (.agg [.lit (.string [116, 104, 101, 114, 101, 32, 97, 114, 101, 32, 110, 111, 32, 103, 114, 111, 117, 112, 115])]))
def laid_redline_api_ErrRune {H : Type} : DataW H := .iface "*errors.errorString" (.ptr (.agg [.lit (.string [105, 116, 32, 105, 115, 32, 110, 111, 32, 85, 84, 70, 45, 56])]))
def laid_redline_api_ErrDepth {H : Type} : DataW H := .iface "*errors.errorString" (.ptr (.agg [.lit (.string [105, 116, 32, 103, 111, 101, 115, 32, 116, 111, 111, 32, 100, 101, 101, 112])]))
def laid_redline_api_ErrForm {H : Type} : DataW H := .iface "*errors.errorString" (.ptr (.agg [.lit (.string [105, 116, 32, 105, 115, 32, 110, 111, 116, 32, 111, 102, 32, 105, 116, 115, 32, 102, 111, 114, 109])]))
def laid_redline_api_ErrName {H : Type} : DataW H := .iface "*errors.errorString" (.ptr (.agg [.lit (.string [116, 104, 101, 114, 101, 32, 105, 115, 32, 110, 111, 32, 115, 117, 99, 104, 32, 110, 97, 109, 101])]))
def laid_redline_api_ErrDup {H : Type} : DataW H := .iface "*errors.errorString" (.ptr (.agg [.lit (.string [105, 116, 32, 105, 115, 32, 116, 104, 101, 114, 101, 32, 97, 108, 114, 101, 97, 100, 121])]))
def laid_redline_api_ErrKind {H : Type} : DataW H := .iface "*errors.errorString" (.ptr (.agg [.lit (.string [105, 116, 32, 105, 115, 32, 111, 102, 32, 97, 110, 111, 116, 104, 101, 114, 32, 107, 105, 110, 100])]))
def laid_redline_api_ErrClash {H : Type} : DataW H := .iface "*errors.errorString" (.ptr (.agg [.lit (.string [105, 116, 32, 105, 115, 32, 110, 111, 116, 32, 119, 104, 97, 116, 32, 105, 116, 32, 119, 97, 115])]))
def laid_redline_api_ErrNone {H : Type} : DataW H := .iface "*errors.errorString" (.ptr (.agg [.lit (.string [116, 104, 101, 114, 101, 32, 105, 115, 32, 110, 111, 110, 101])]))
def laid_redline_api_ErrFull {H : Type} : DataW H := .iface "*errors.errorString" (.ptr (.agg [.lit (.string [116, 104, 101, 114, 101, 32, 105, 115, 32, 110, 111, 32, 109, 111, 114, 101, 32, 114, 111, 111, 109])]))
def laid_redline_api_ErrState {H : Type} : DataW H := .iface "*errors.errorString" (.ptr (.agg [.lit (.string [105, 116, 32, 99, 97, 110, 32, 110, 111, 116, 32, 98, 101, 32, 100, 111, 110, 101, 32, 105, 110, 32, 116, 104, 105, 115, 32, 115, 116, 97, 116, 101])]))
def laid_redline_api_ErrPower {H : Type} : DataW H := .iface "*errors.errorString" (.ptr (.agg [.lit (.string [116, 104, 101, 32, 112, 111, 119, 101, 114, 32, 105, 115, 32, 103, 111, 110, 101])]))
def laid_redline_api_ErrSum {H : Type} : DataW H := .iface "*errors.errorString" (.ptr (.agg [.lit (.string [116, 104, 101, 32, 115, 117, 109, 32, 105, 115, 32, 110, 111, 116, 32, 114, 105, 103, 104, 116])]))
def laid_redline_api_ErrConflict {H : Type} : DataW H := .iface "*errors.errorString" (.ptr (.agg [.lit (.string [98, 111, 116, 104, 32, 115, 105, 100, 101, 115, 32, 99, 104, 97, 110, 103, 101, 100, 32, 105, 116])]))
def laid_redline_kinds_names {H : Type} : DataW H := .agg [.lit (.string []), .lit (.string [100, 111, 117, 98, 108, 101]), .lit (.string [102, 108, 111, 97, 116]), .lit (.string [105, 110, 116, 51, 50]), .lit (.string [105, 110, 116, 54, 52]), .lit (.string [117, 105, 110, 116, 51, 50]), .lit (.string [117, 105, 110, 116, 54, 52]), .lit (.string [115, 105, 110, 116, 51, 50]), .lit (.string [115, 105, 110, 116, 54, 52]), .lit (.string [102, 105, 120, 101, 100, 51, 50]), .lit (.string [102, 105, 120, 101, 100, 54, 52]), .lit (.string [115, 102, 105, 120, 101, 100, 51, 50]), .lit (.string [115, 102, 105, 120, 101, 100, 54, 52]), .lit (.string [98, 111, 111, 108]), .lit (.string [115, 116, 114, 105, 110, 103]), .lit (.string [98, 121, 116, 101, 115]), .lit (.string [101, 110, 117, 109]), .lit (.string [109, 101, 115, 115, 97, 103, 101])]
def laid_strconv_ErrRange {H : Type} : DataW H := .iface "*errors.errorString" (.ptr (.agg [.lit (.string [118, 97, 108, 117, 101, 32, 111, 117, 116, 32, 111, 102, 32, 114, 97, 110, 103, 101])]))
def laid_strconv_ErrSyntax {H : Type} : DataW H := .iface "*errors.errorString" (.ptr (.agg [.lit (.string [105, 110, 118, 97, 108, 105, 100, 32, 115, 121, 110, 116, 97, 120])]))
def laid_redline_script_words {H : Type} : DataW H := .agg [.lit (.string []), .lit (.string [97, 112, 112, 101, 110, 100]), .lit (.string [115, 121, 110, 99]), .lit (.string [114, 101, 97, 100]), .lit (.string [109, 101, 114, 103, 101]), .lit (.string [100, 105, 102, 102]), .lit (.string [114, 101, 118, 101, 114, 116]), .lit (.string [99, 111, 109, 112, 97, 99, 116]), .lit (.string [102, 117, 115, 101]), .lit (.string [99, 114, 97, 115, 104]), .lit (.string [111, 112, 101, 110]), .lit (.string [99, 114, 101, 97, 116, 101])]

/-- 'redlinelaw42.ReportResults': WHATEVER THE INPUT: true; the input reads as it did. -/
def reportResultsSpec : ChangeSpec := { name := "reportResults", fn := fun _ => fun
  | [d] => { results := [.lit (.bool true)], args := [d] }
  | _ => none }
def reportResultsRow : OpenClaim := { program := "ytnamakmnlagpgaagreatdoor", sum := "7ae8b49f145ec032c7313bdf845d7fa66b8da8e804ff572c508509bc3829e6b4", func := "redline/redlinelaw42.ReportResults", spec := "reportResults", inPlace := ["internal/bytealg.IndexByteString", "internal/bytealg.IndexString", "internal/abi.NoEscape", "internal/bytealg.MakeNoZero", "internal/reflectlite.TypeOf"], unfollowed := true, recurses := true, named := ["redline/api.ErrName", "redline/api.ErrLong", "redline/api.ErrForm", "internal/bytealg.MaxLen", "redline/api.ErrRange", "strconv.ErrSyntax", "strconv.ErrRange", "internal/strconv.uint64pow10", "math/bits.deBruijn32tab", "math/bits.deBruijn64tab", "redline/api.ErrDepth", "redline/api.ErrDup", "redline/kinds.names", "redline/api.ErrKind", "redline/script.words", "redline/api.ErrConflict", "redline/api.ErrFull", "redline/api.ErrNone", "redline/api.ErrPower", "redline/api.ErrShort", "redline/api.ErrSum", "redline/api.ErrVarint", "redline/api.ErrTag", "redline/api.ErrRune", "redline/api.ErrGroup", "redline/api.ErrClash", "redline/api.ErrState"], apart := false, laid := [("math/bits.deBruijn32tab", laid_math_bits_deBruijn32tab), ("math/bits.deBruijn64tab", laid_math_bits_deBruijn64tab), ("internal/strconv.uint64pow10", laid_internal_strconv_uint64pow10), ("redline/api.ErrRange", laid_redline_api_ErrRange), ("redline/api.ErrShort", laid_redline_api_ErrShort), ("redline/api.ErrLong", laid_redline_api_ErrLong), ("redline/api.ErrVarint", laid_redline_api_ErrVarint), ("redline/api.ErrTag", laid_redline_api_ErrTag), ("redline/api.ErrGroup", laid_redline_api_ErrGroup), ("redline/api.ErrRune", laid_redline_api_ErrRune), ("redline/api.ErrDepth", laid_redline_api_ErrDepth), ("redline/api.ErrForm", laid_redline_api_ErrForm), ("redline/api.ErrName", laid_redline_api_ErrName), ("redline/api.ErrDup", laid_redline_api_ErrDup), ("redline/api.ErrKind", laid_redline_api_ErrKind), ("redline/api.ErrClash", laid_redline_api_ErrClash), ("redline/api.ErrNone", laid_redline_api_ErrNone), ("redline/api.ErrFull", laid_redline_api_ErrFull), ("redline/api.ErrState", laid_redline_api_ErrState), ("redline/api.ErrPower", laid_redline_api_ErrPower), ("redline/api.ErrSum", laid_redline_api_ErrSum), ("redline/api.ErrConflict", laid_redline_api_ErrConflict), ("redline/kinds.names", laid_redline_kinds_names), ("strconv.ErrRange", laid_strconv_ErrRange), ("strconv.ErrSyntax", laid_strconv_ErrSyntax), ("redline/script.words", laid_redline_script_words)] }
def ReportResultsSaid : Prop := reportResultsRow.holds Tryz.pinned (OpenSpec.ofChange reportResultsSpec)

/-- ITS FALSE NEIGHBOUR: 'it returns false'. Refute it at one input. -/
def reportResultsWrong : ChangeSpec := { name := "reportResults", fn := fun _ => fun
  | [d] => { results := [.lit (.bool false)], args := [d] }
  | _ => none }
def ReportResultsWrongFalsely : Prop := reportResultsRow.holds Tryz.pinned (OpenSpec.ofChange reportResultsWrong)

/- THE SECOND FORM. 'bulk': how many values and letters a reading holds, each counted each time it is reached (what is shared counts as often as it is met; a slice's spare places count too). A statement '..UptoSaid' is the law's where the arguments, and the package variables that the reading takes, are together of bulk at most 1048576: NARROWER than '..Said'. Prove '..Said' where nothing that the law and all that it calls make is longer than what came in: it says more and counts as full. Else prove '..UptoSaid'. A law counts once. -/
mutual
def uptoBulk {H : Type} : DataW H → Nat
  | .lit (.string bytes) => bytes.length + 1
  | .lit _ => 1
  | .nil => 1
  | .ptr d => uptoBulk d + 1
  | .slice elems spare => uptoBulkAll elems + uptoBulkAll spare + 1
  | .agg parts => uptoBulkAll parts + 1
  | .iface _ d => uptoBulk d + 1
  | .map entries => uptoBulkEntries entries + 1
  | .held _ => 1
def uptoBulkAll {H : Type} : List (DataW H) → Nat
  | [] => 0
  | d :: r => uptoBulk d + uptoBulkAll r
def uptoBulkEntries {H : Type} : List (Lit × DataW H) → Nat
  | [] => 0
  | x :: r => uptoBulkEntry x + uptoBulkEntries r
def uptoBulkEntry {H : Type} : Lit × DataW H → Nat
  | (.string bytes, d) => bytes.length + uptoBulk d + 1
  | (_, d) => uptoBulk d + 1
 end
def uptoSmall : (H : Type) → List (DataW H) → Bool := fun _ ds => decide (uptoBulkAll ds ≤ 1048576)
def OpenSpec.upto (s : _root_.Go.ChangeSpec) : _root_.Go.OpenSpec := { _root_.Go.OpenSpec.ofChange s with cond := some uptoSmall }

/-- 'redlinelaw42.ReportResults', WHERE WHAT IT READS IS OF BULK AT MOST 1048576: true; the input reads as it did. -/
def reportResultsUptoRow : OpenClaim := { program := "ytnamakmnlagpgaagreatdoor", sum := "7ae8b49f145ec032c7313bdf845d7fa66b8da8e804ff572c508509bc3829e6b4", func := "redline/redlinelaw42.ReportResults", spec := "reportResults", inPlace := ["internal/bytealg.IndexByteString", "internal/bytealg.IndexString", "internal/abi.NoEscape", "internal/bytealg.MakeNoZero", "internal/reflectlite.TypeOf"], unfollowed := true, recurses := true, named := ["redline/api.ErrName", "redline/api.ErrLong", "redline/api.ErrForm", "internal/bytealg.MaxLen", "redline/api.ErrRange", "strconv.ErrSyntax", "strconv.ErrRange", "internal/strconv.uint64pow10", "math/bits.deBruijn32tab", "math/bits.deBruijn64tab", "redline/api.ErrDepth", "redline/api.ErrDup", "redline/kinds.names", "redline/api.ErrKind", "redline/script.words", "redline/api.ErrConflict", "redline/api.ErrFull", "redline/api.ErrNone", "redline/api.ErrPower", "redline/api.ErrShort", "redline/api.ErrSum", "redline/api.ErrVarint", "redline/api.ErrTag", "redline/api.ErrRune", "redline/api.ErrGroup", "redline/api.ErrClash", "redline/api.ErrState"], apart := false, laid := [("math/bits.deBruijn32tab", laid_math_bits_deBruijn32tab), ("math/bits.deBruijn64tab", laid_math_bits_deBruijn64tab), ("internal/strconv.uint64pow10", laid_internal_strconv_uint64pow10), ("redline/api.ErrRange", laid_redline_api_ErrRange), ("redline/api.ErrShort", laid_redline_api_ErrShort), ("redline/api.ErrLong", laid_redline_api_ErrLong), ("redline/api.ErrVarint", laid_redline_api_ErrVarint), ("redline/api.ErrTag", laid_redline_api_ErrTag), ("redline/api.ErrGroup", laid_redline_api_ErrGroup), ("redline/api.ErrRune", laid_redline_api_ErrRune), ("redline/api.ErrDepth", laid_redline_api_ErrDepth), ("redline/api.ErrForm", laid_redline_api_ErrForm), ("redline/api.ErrName", laid_redline_api_ErrName), ("redline/api.ErrDup", laid_redline_api_ErrDup), ("redline/api.ErrKind", laid_redline_api_ErrKind), ("redline/api.ErrClash", laid_redline_api_ErrClash), ("redline/api.ErrNone", laid_redline_api_ErrNone), ("redline/api.ErrFull", laid_redline_api_ErrFull), ("redline/api.ErrState", laid_redline_api_ErrState), ("redline/api.ErrPower", laid_redline_api_ErrPower), ("redline/api.ErrSum", laid_redline_api_ErrSum), ("redline/api.ErrConflict", laid_redline_api_ErrConflict), ("redline/kinds.names", laid_redline_kinds_names), ("strconv.ErrRange", laid_strconv_ErrRange), ("strconv.ErrSyntax", laid_strconv_ErrSyntax), ("redline/script.words", laid_redline_script_words)], narrowed := true }
def ReportResultsUptoSaid : Prop := reportResultsUptoRow.holds Tryz.pinned (OpenSpec.upto reportResultsSpec)

end Rows
end Go.Proofs.YtnamakmnlagpgaaGreatDoor
