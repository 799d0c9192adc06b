import Derived.Test.YtnamakmnlagpgaaGreatDoorNum
import Derived.Lib.Hide
set_option linter.unusedVariables false
set_option linter.unusedSimpArgs false
namespace Go.Proofs.YtnamakmnlagpgaaGreatDoor
open Go Go.RowKit

/-! ### redlinenum.all: a closed run -/
noncomputable section
open Go.AX
def noX (f : FuncId) : Option (Array Value → H → Option (Value × H)) := none
theorem noX_ok : ExtOK Tryz.prog noX := fun f g hf => by cases hf
def listOf (r : Option (Value × H)) : Option (List Value) :=
  match r with
  | some (.slice (some ⟨b, o, none⟩) n c, h) => h.read b o n
  | _ => none
set_option maxHeartbeats 0 in
theorem runAll : listOf (callsA Tryz.prog drawF noX 100 10 30 #[] (startH startL)) = some ((List.range 19).map errA) := by kernel_rfl

/-- a list of values that a call handed back, in new memory -/
def Gives (w w' : World) (e : Ending) (xs : List Value) : Prop :=
  ∃ B o c, e = .returned (.slice (some ⟨B, o, none⟩) xs.length c) ∧ B < w'.heap.size ∧ (∀ (j : Nat) x, xs[j]? = some x → w'.cell? ⟨B, o + j, none⟩ = some x) ∧ Below w.heap.size w w'

theorem gives_run {f : FuncId} {l : List Value} (hr : listOf (callsA Tryz.prog drawF noX 100 10 f #[] (startH startL)) = some l) (hl : (l.all (ok roB)) = true) {w : World} {eb eo : Nat → Nat} (h : ErrsAt w eb eo) (hw : WordsAt w) :
    Calls Tryz.prog f #[] w fun e w' => Gives w w' e (l.map (ren (rhoE eb eo))) := by
  unfold listOf at hr
  split at hr
  · rename_i b o n c h' hc
    rw [callsA_eq] at hc
    have hcall := ((calls_ok noNum (fun call hc => regF_ok (draw_ok (P := Tryz.prog)) call hc) noX_ok 100 10).2 f #[] (startH startL) _ h' hc (by simp [okA_eq])).2 (rhoE eb eo) w (start_ok h hw)
    have e : (#[] : Array Value).map (ren (rhoE eb eo)) = #[] := by simp
    rw [e] at hcall
    refine hcall.mono fun e w' he => ?_
    obtain ⟨ρ', rfl, s, st⟩ := he
    obtain ⟨hlen, hok, C, el, fz, hC, hsz, hat⟩ := s.read hr
    refine ⟨(ρ' b).B, (ρ' b).off + o, renC ρ' b c, by simp [ren, renA, hlen], (Array.getElem?_eq_some_iff.1 hC).1, fun j x hj => ?_, start_below st startL_lt⟩
    rw [List.getElem?_map] at hj
    cases hv : l[j]? with
    | none => rw [hv] at hj; cases hj
    | some v =>
      rw [hv] at hj
      simp only [Option.map_some, Option.some.injEq] at hj
      have h5 := hat j v hv
      have hv2 : ok roB v = true := List.all_eq_true.1 hl v (List.mem_of_getElem? hv)
      have ha : Agree roB (rhoE eb eo) ρ' := st.agree
      rw [ren_agree ha v hv2] at h5
      rw [← hj]
      simp [World.cell?, hC, h5]
  · cases hr
def allE (eb eo : Nat → Nat) : List Value := (List.range 19).map fun i => errV (eb i) (eo i)
theorem allE_at (eb eo : Nat → Nat) (i : Nat) (hi : i < 19) : (allE eb eo)[i]? = some (errV (eb i) (eo i)) := by simp [allE, hi]
theorem allE_len (eb eo : Nat → Nat) : (allE eb eo).length = 19 := by simp [allE]
theorem all_walk (w : World) {eb eo : Nat → Nat} (h : ErrsAt w eb eo) (hw : WordsAt w) : Calls Tryz.prog 30 #[] w fun e w' => ∃ B o c, e = .returned (.slice (some ⟨B, o, none⟩) 19 c) ∧ B < w'.heap.size ∧ (∀ (j : Nat) x, (allE eb eo)[j]? = some x → w'.cell? ⟨B, o + j, none⟩ = some x) ∧ Below w.heap.size w w' := by
  have := gives_run runAll (by decide) h hw
  have e : ((List.range 19).map errA).map (ren (rhoE eb eo)) = allE eb eo := by
    rw [List.map_map]
    refine List.map_congr_left fun i hi => ?_
    exact rhoE_err eb eo i (List.mem_range.1 hi)
  rw [e] at this
  refine this.mono fun e w' he => ?_
  obtain ⟨B, o, c, he, h2⟩ := he
  rw [allE_len] at he
  exact ⟨B, o, c, he, h2⟩
end

/-- errors.Is of two of the errors -/
theorem is_any {w : World} {eb eo : Nat → Nat} (h : ErrsAt w eb eo) (i j : Nat) (hi : i < 19) (hj : j < 19) :
    Calls Tryz.prog 21 #[errV (eb i) (eo i), errV (eb j) (eo j)] w fun e w' => e = .returned (.bool (Nat.beq i j)) ∧ w = w' := by
  by_cases hij : i = j
  · subst hij
    refine (is_same _ w).mono fun e w' he => ?_
    obtain ⟨rfl, rfl⟩ := he
    exact ⟨by simp, rfl⟩
  · obtain ⟨_, ca, ta, h1⟩ := h.at1 i hi
    obtain ⟨_, cb, tb, h2⟩ := h.at1 j hj
    refine (is_other w (h.inj i j hi hj hij) h1 h2).mono fun e w' he => ?_
    obtain ⟨rfl, rfl⟩ := he
    have : Nat.beq i j = false := AX.nbeq hij
    exact ⟨by rw [this], rfl⟩

set_option maxRecDepth 100000 in
set_option maxHeartbeats 4000000 in
/-- the number of an error -/
theorem num_err {w : World} {eb eo : Nat → Nat} (h : ErrsAt w eb eo) (hw : WordsAt w) (n : Nat) (hn : n < 19) :
    Calls Tryz.prog 17 #[errV (eb n) (eo n)] w fun e w' => e = .returned (.int .i64 (n + 1 : Nat)) ∧ Below w.heap.size w w' := by
  have call := all_walk w h hw
  have HE := Lib.hid h
  clear hw h
  obtain ⟨x, hx⟩ : ∃ x, x = errV (eb n) (eo n) := ⟨_, rfl⟩
  have hxi : ∃ p, x = .iface 792 p := ⟨_, hx⟩
  obtain ⟨p, rfl⟩ := hxi
  have cis : ∀ (W : World) j, Below w.heap.size w W → j < 19 → Calls Tryz.prog 21 #[.iface 792 p, errV (eb j) (eo j)] W fun e w' => e = .returned (.bool (Nat.beq n j)) ∧ W = w' := fun W j hb hj => by
    rw [hx]; exact is_any (HE.out.kept hb) n j hn hj
  rw [← hx]
  have hnil := run_eql_held_nil (P := Tryz.prog) w 31 792 p Tryz.underlying31
  clear hx HE
  go_enter Tryz.func17, Tryz.ntmps17
  go_wp2_with (go_at_call 30; refine call.mono ?_; rintro e w1 ⟨B, o, c, rfl, hB, hcell, hb⟩)
  have HC := Lib.hid hcell
  have HB := Lib.hid hb
  clear hcell hb call hB
  go_loop [9] (fun i => ∃ k : Nat, k ≤ n ∧ i = .int .i64 k) (fun i => 19 - (intOf i).toNat)
  case atStart => exact ⟨0, Nat.zero_le _, rfl⟩
  case round =>
    obtain ⟨k, hk, rfl⟩ := hrel
    have hk19 : k < 19 := by omega
    have hcell := HC.out k _ (allE_at eb eo k hk19)
    have hc := cis w1 k HB.out hk19
    clear cis
    by_cases hkn : n = k
    · have hb2 : Nat.beq n k = true := by subst hkn; simp
      rw [hb2] at hc
      clear hb2
      go_wp2_with (go_at_call 21; refine hc.mono ?_; rintro e w' ⟨rfl, rfl⟩)
      go_ret
      exact ⟨by rw [hkn]; rfl, HB.out⟩
    · have hb2 : Nat.beq n k = false := AX.nbeq hkn
      rw [hb2] at hc
      clear hb2
      go_wp2_with (go_at_call 21; refine hc.mono ?_; rintro e w' ⟨rfl, rfl⟩)
      go_round
      case rel => exact ⟨k + 1, by omega, by go_num⟩
      case measure => simp [intOf]; omega

theorem num_nil (w : World) : Calls Tryz.prog 17 #[.nilIface] w fun e w' => e = .returned (.int .i64 0) ∧ w' = w := by
  go_enter Tryz.func17, Tryz.ntmps17
  go_wp2
  go_ret
  exact ⟨rfl, rfl⟩
end Go.Proofs.YtnamakmnlagpgaaGreatDoor
