import Derived.Test.YtnamakmnlagpgaaGreatDoorAx11
import Derived.Test.YtnamakmnlagpgaaGreatDoorNum
import Derived.Test.YtnamakmnlagpgaaGreatDoorIs
import Derived.Test.YtnamakmnlagpgaaGreatDoorShelf
set_option linter.unusedVariables false
set_option linter.unusedSimpArgs false
namespace Go.Proofs.YtnamakmnlagpgaaGreatDoor
noncomputable section
open Go Go.AX Go.RowKit

def isX (args : Array Value) (h : H) : Option (Value × H) :=
  match args.toList with
  | [.iface t (.pointer (some ⟨b, o, none⟩)), .iface t' (.pointer (some ⟨b', o', none⟩))] =>
    cond (Nat.beq t 792) (cond (Nat.beq t' 792) (cond (Nat.beq b b') (cond (Nat.beq o o') (some (.bool true, h)) none) none) none) none
  | _ => none

def strL : List Value → Option (List ByteArray)
  | [] => some []
  | .string s :: l => match strL l with
    | some r => some (s :: r)
    | none => none
  | _ => none
theorem strL_eq : ∀ (l : List Value) (xs : List ByteArray), strL l = some xs → l = xs.map Value.string
  | [], xs, h => by simp only [strL, Option.some.injEq] at h; subst h; rfl
  | v :: l, xs, h => by
    unfold strL at h
    split at h
    · rename_i e; cases e
    · rename_i s l' e
      simp only [List.cons.injEq] at e
      obtain ⟨rfl, rfl⟩ := e
      split at h
      · rename_i r hr
        simp only [Option.some.injEq] at h; subst h
        simp [strL_eq _ _ hr]
      · cases h
    · cases h

def joinX (args : Array Value) (h : H) : Option (Value × H) :=
  match args.toList with
  | [.slice (some ⟨b, o, none⟩) len c, .string sep] => match h.read b o len with
    | some l => match strL l with
      | some xs => frcL (Lib.join (xs.map (·.data.toList)) sep.data.toList) fun r =>
        cond (Nat.ble r.length 140737488355328) (cond (Nat.ble len 140737488355328) (cond (Nat.ble len (c / 2)) (some (.string ⟨r.toArray⟩, h)) none) none) none
      | none => none
    | none => none
  | _ => none

def extA (f : FuncId) : Option (Array Value → H → Option (Value × H)) := cond (Nat.beq f 21) (some isX) (cond (Nat.beq f 22) (some joinX) none)

theorem isX_ok {args : Array Value} {h h' : H} {v : Value} (hx : isX args h = some (v, h')) {ρ : Nat → AX.Loc} {w : World} (s : Sim ρ h w) :
    Calls Tryz.prog 21 (args.map (ren ρ)) w (fun e w' => ∃ ρ', e = .returned (ren ρ' v) ∧ Sim ρ' h' w' ∧ Step ρ h w ρ' h' w') := by
  obtain ⟨l⟩ := args
  unfold isX at hx
  split at hx
  · rename_i t b o t' b' o' hl
    simp only at hl
    subst hl
    obtain ⟨h1, hx⟩ := cond_some hx
    obtain ⟨h2, hx⟩ := cond_some hx
    obtain ⟨h3, hx⟩ := cond_some hx
    obtain ⟨h4, hx⟩ := cond_some hx
    simp only [Option.some.injEq, Prod.mk.injEq] at hx
    obtain ⟨rfl, rfl⟩ := hx
    have h1 := nbeq_true h1
    have h2 := nbeq_true h2
    have h3 := nbeq_true h3
    have h4 := nbeq_true h4
    subst h1 h2 h3 h4
    have e : (⟨[.iface 792 (.pointer (some ⟨b, o, none⟩)), .iface 792 (.pointer (some ⟨b, o, none⟩))]⟩ : Array Value).map (ren ρ) =
        #[.iface 792 (.pointer (some (renA ρ ⟨b, o, none⟩))), .iface 792 (.pointer (some (renA ρ ⟨b, o, none⟩)))] := by simp [ren]
    rw [e]
    refine (is_same _ w).mono fun e w' he => ?_
    obtain ⟨rfl, rfl⟩ := he
    exact ⟨ρ, by simp [ren], s, Step.refl _ _ _⟩
  · cases hx

theorem joinX_ok {args : Array Value} {h h' : H} {v : Value} (hx : joinX args h = some (v, h')) {ρ : Nat → AX.Loc} {w : World} (s : Sim ρ h w) :
    Calls Tryz.prog 22 (args.map (ren ρ)) w (fun e w' => ∃ ρ', e = .returned (ren ρ' v) ∧ Sim ρ' h' w' ∧ Step ρ h w ρ' h' w') := by
  obtain ⟨l⟩ := args
  unfold joinX at hx
  split at hx
  · rename_i b o len c sep hl
    simp only at hl
    subst hl
    split at hx
    · rename_i l hr
      split at hx
      · rename_i xs hxs
        rw [frcL_eq] at hx
        obtain ⟨h1, hx⟩ := cond_some hx
        obtain ⟨h2, hx⟩ := cond_some hx
        obtain ⟨h3, hx⟩ := cond_some hx
        simp only [Option.some.injEq, Prod.mk.injEq] at hx
        obtain ⟨rfl, rfl⟩ := hx
        have h1 := nble_true h1
        have h2 := nble_true h2
        have h3 := nble_true h3
        obtain ⟨hlen, hok, C, el, fz, hC, hsz, hat⟩ := s.read hr
        have hl := strL_eq l xs hxs
        have hxl : xs.length = len := by rw [← hlen, hl]; simp
        subst hxl
        have e : (⟨[.slice (some ⟨b, o, none⟩) xs.length c, .string sep]⟩ : Array Value).map (ren ρ) =
            #[.slice (some ⟨(ρ b).B, (ρ b).off + o, none⟩) xs.length (renC ρ b c), .string sep] := by simp [ren, renA]
        rw [e]
        have hB : (ρ b).B < w.heap.size := by
          rcases Nat.lt_or_ge (ρ b).B w.heap.size with h | h
          · exact h
          · rw [Array.getElem?_eq_none h] at hC; cases hC
        refine (Tryz.strings_Join (ρ b).B ((ρ b).off + o) (renC ρ b c) xs sep w (fun j x hj => ?_) hB h2 ?_ h1).mono fun e w' he => ?_
        · have h5 := hat j (.string x) (by rw [hl]; simp [hj])
          simp only [ren] at h5
          simp [World.cell?, hC, h5]
        · unfold renC
          cases Nat.beq (c % 2) 1 <;> simp only [cond_true, cond_false] <;> omega
        · obtain ⟨rfl, hb⟩ := he
          obtain ⟨a1, a2⟩ := below_sim s hb
          exact ⟨ρ, by simp [ren], a1, a2⟩
      · cases hx
    · cases hx
  · cases hx

theorem extA_ok : ExtOK Tryz.prog extA := by
  intro f g hf args h v h' hg hok ρ w s
  unfold extA at hf
  cases h1 : Nat.beq f 21 with
  | true =>
    rw [h1] at hf
    simp only [cond_true, Option.some.injEq] at hf
    subst hf
    have := nbeq_true h1
    subst this
    exact isX_ok hg s
  | false =>
    rw [h1] at hf
    simp only [cond_false] at hf
    obtain ⟨h2, hf⟩ := cond_some hf
    simp only [Option.some.injEq] at hf
    subst hf
    have := nbeq_true h2
    subst this
    exact joinX_ok hg s
end
end Go.Proofs.YtnamakmnlagpgaaGreatDoor
