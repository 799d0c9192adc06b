import Derived.Test.YtnjpoodfaendkaaGreatDoorC8
set_option linter.unusedVariables false
set_option linter.unusedSimpArgs false
set_option linter.unusedVariables false
namespace Go.Proofs.YtnjpoodfaendkaaGreatDoor
noncomputable section
open Go Go.AX Go.RowKit

/-! ### the chapter's example: a closed run -/
def bs (l : List UInt8) : Value := .string ⟨l.toArray⟩
def pt (b o : Nat) : Value := .pointer (some ⟨b, o, none⟩)
def wordsC : List Value := [(bs []), (bs [97, 112, 112, 101, 110, 100]), (bs [115, 121, 110, 99]), (bs [114, 101, 97, 100]), (bs [109, 101, 114, 103, 101]), (bs [100, 105, 102, 102]), (bs [114, 101, 118, 101, 114, 116]), (bs [99, 111, 109, 112, 97, 99, 116]), (bs [102, 117, 115, 101]), (bs [99, 114, 97, 115, 104]), (bs [111, 112, 101, 110]), (bs [99, 114, 101, 97, 116, 101])]
def namesC : List Value := [(bs []), (bs [100, 111, 117, 98, 108, 101]), (bs [102, 108, 111, 97, 116]), (bs [105, 110, 116, 51, 50]), (bs [105, 110, 116, 54, 52]), (bs [117, 105, 110, 116, 51, 50]), (bs [117, 105, 110, 116, 54, 52]), (bs [115, 105, 110, 116, 51, 50]), (bs [115, 105, 110, 116, 54, 52]), (bs [102, 105, 120, 101, 100, 51, 50]), (bs [102, 105, 120, 101, 100, 54, 52]), (bs [115, 102, 105, 120, 101, 100, 51, 50]), (bs [115, 102, 105, 120, 101, 100, 54, 52]), (bs [98, 111, 111, 108]), (bs [115, 116, 114, 105, 110, 103]), (bs [98, 121, 116, 101, 115]), (bs [101, 110, 117, 109]), (bs [109, 101, 115, 115, 97, 103, 101])]
def hL : List (Nat × List Value) := [(3, wordsC), (24, namesC), (15, [.iface 796 (pt 1013 0)]), (19, [.iface 796 (pt 1017 0)])]
def drawF (call : AX.Call) (ops : Array Oper) (s : St) : Option St := drawX Tryz.prog call ops s
def isTrue (r : Option (Value × H)) : Bool := match r with
  | some (.bool b, _) => b
  | _ => false

set_option maxHeartbeats 0 in
theorem run4 : isTrue (callsA Tryz.prog drawF extA 100000 2000 4 #[] (startH hL)) = true := by decide +kernel

def WordsAt (w : World) : Prop := (∃ el, w.heap[3]? = some (.cells wordsC.toArray el (0, 0))) ∧ (∃ el, w.heap[24]? = some (.cells namesC.toArray el (0, 0))) ∧
  (∃ el b o, w.heap[15]? = some (.cells #[.iface 796 (.pointer (some ⟨b, o, none⟩))] el (0, 0))) ∧ ∃ el b o, w.heap[19]? = some (.cells #[.iface 796 (.pointer (some ⟨b, o, none⟩))] el (0, 0))

theorem alive_walk (w : World) (hw : WordsAt w) : Calls Tryz.prog 4 #[] w fun e w' => e = .returned (.bool true) ∧ Below w.heap.size w w' := by
  obtain ⟨⟨e3, h3⟩, ⟨e24, h24⟩, ⟨e15, b15, o15, h15⟩, ⟨e19, b19, o19, h19⟩⟩ := hw
  have hr := run4
  unfold isTrue at hr
  split at hr
  · rename_i b h' hc
    subst hr
    rw [callsA_eq] at hc
    let ρ : Nat → AX.Loc := fun n => if n = 1013 then ⟨b15, o15, 0⟩ else if n = 1017 then ⟨b19, o19, 0⟩ else ⟨n, 0, 0⟩
    have hρ : ∀ g, g < 1000 → ρ g = ⟨g, 0, 0⟩ := fun g hg => by
      simp only [ρ]
      rw [if_neg (by omega), if_neg (by omega)]
    have hfree : ∀ (l : List Value), freeL l = true → (∀ v, v ∈ l → ok roB v = true) ∧ ∀ (i : Nat) v, l[i]? = some v → l.toArray[i]? = some (ren ρ v) := fun l hl => by
      rw [freeL_eq, List.all_eq_true] at hl
      refine ⟨fun v hv => ok_free v (hl v hv), fun i v hi => ?_⟩
      rw [ren_free ρ v (hl v (List.mem_of_getElem? hi))]
      simpa using hi
    have hs : Sim ρ (startH hL) w := start_sim hρ (fun g cs hg => by
      simp only [hL, List.mem_cons, Prod.mk.injEq, List.not_mem_nil, or_false] at hg
      rcases hg with ⟨rfl, rfl⟩ | ⟨rfl, rfl⟩ | ⟨rfl, rfl⟩ | ⟨rfl, rfl⟩
      · obtain ⟨a1, a2⟩ := hfree wordsC rfl
        exact ⟨by decide, a1, _, _, _, h3, a2, .inl rfl⟩
      · obtain ⟨a1, a2⟩ := hfree namesC rfl
        exact ⟨by decide, a1, _, _, _, h24, a2, .inl rfl⟩
      · refine ⟨by decide, fun v hv => ?_, _, _, _, h15, fun i v hi => ?_, .inl rfl⟩
        · simp only [List.mem_singleton] at hv; subst hv; rfl
        · cases i with
          | zero => simp only [List.getElem?_cons_zero, Option.some.injEq] at hi; subst hi; simp [pt, ren, renA, ρ]
          | succ i => simp at hi
      · refine ⟨by decide, fun v hv => ?_, _, _, _, h19, fun i v hi => ?_, .inl rfl⟩
        · simp only [List.mem_singleton] at hv; subst hv; rfl
        · cases i with
          | zero => simp only [List.getElem?_cons_zero, Option.some.injEq] at hi; subst hi; simp [pt, ren, renA, ρ]
          | succ i => simp at hi)
    have hcall := ((calls_ok noNum (fun call hc => regF_ok (draw_ok (P := Tryz.prog)) call hc) extA_ok 100000 2000).2 4 #[] (startH hL) _ h' hc (by simp [okA_eq])).2 ρ w hs
    have e : (#[] : Array Value).map (ren ρ) = #[] := by simp
    rw [e] at hcall
    refine hcall.mono fun e w' he => ?_
    obtain ⟨ρ', rfl, s, st⟩ := he
    refine ⟨by simp [ren], start_below st (fun g cs hg => ?_)⟩
    simp only [hL, List.mem_cons, Prod.mk.injEq, List.not_mem_nil, or_false] at hg
    rcases hg with ⟨rfl, _⟩ | ⟨rfl, _⟩ | ⟨rfl, _⟩ | ⟨rfl, _⟩ <;> decide
  · cases hr
end
end Go.Proofs.YtnjpoodfaendkaaGreatDoor
