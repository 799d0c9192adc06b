import Derived.Test.YtnamakmnlagpgaaGreatDoorErr
import Derived.Test.YtnamakmnlagpgaaGreatDoorW
set_option linter.unusedVariables false
set_option linter.unusedSimpArgs false
namespace Go.Proofs.YtnamakmnlagpgaaGreatDoor
open Go Go.RowKit

noncomputable def errOf (eb eo : Nat → Nat) (n : Int) : Value := if 1 ≤ n ∧ n ≤ 19 then errV (eb (n - 1).toNat) (eo (n - 1).toNat) else .nilIface

set_option maxRecDepth 100000 in
set_option maxHeartbeats 4000000 in
theorem err_walk {w : World} {eb eo : Nat → Nat} (h : ErrsAt w eb eo) (hw : WordsAt w) (n : Int) :
    Calls Tryz.prog 14 #[.int .i64 n] w fun e w' => e = .returned (errOf eb eo n) ∧ Below w.heap.size w w' := by
  by_cases hn : 1 ≤ n ∧ n ≤ 19
  · obtain ⟨m, rfl⟩ : ∃ m : Nat, n = m + 1 := ⟨(n - 1).toNat, by omega⟩
    have hm : m < 19 := by omega
    have call := all_walk w h hw
    have he : errOf eb eo ((m : Int) + 1) = errV (eb m) (eo m) := by
      unfold errOf
      rw [if_pos hn]
      have : ((m : Int) + 1 - 1).toNat = m := by omega
      rw [this]
    have HE := Lib.hid he
    clear h hw he
    obtain ⟨h1, h2⟩ := hn
    have hat := allE_at eb eo m hm
    go_enter Tryz.func14, Tryz.ntmps14
    go_wp2_with (go_at_call 30; refine call.mono ?_; rintro e w1 ⟨B, o, c, rfl, hB, hcell, hb⟩; have hc1 := hcell m _ hat; clear hcell call hat)
    go_ret
    exact ⟨by rw [HE.out]; rfl, hb⟩
  · have he : errOf eb eo n = .nilIface := by unfold errOf; rw [if_neg hn]
    rw [he]
    by_cases h1 : 1 ≤ n
    · have h2 : 19 < n := by omega
      clear h hw hn he
      go_enter Tryz.func14, Tryz.ntmps14
      go_wp2
      go_ret
      exact ⟨rfl, Below.refl _ _⟩
    · have h2 : n < 1 := by omega
      clear h hw hn he h1
      go_enter Tryz.func14, Tryz.ntmps14
      go_wp2
      go_ret
      exact ⟨rfl, Below.refl _ _⟩

/-! ### the words -/
def wordsB : List (List UInt8) := [[], [97, 112, 112, 101, 110, 100], [115, 121, 110, 99], [114, 101, 97, 100], [109, 101, 114, 103, 101], [100, 105, 102, 102], [114, 101, 118, 101, 114, 116], [99, 111, 109, 112, 97, 99, 116], [102, 117, 115, 101], [99, 114, 97, 115, 104], [111, 112, 101, 110], [99, 114, 101, 97, 116, 101]]
theorem wordsC_map : wordsC = wordsB.map bs := rfl
theorem wordsC_at (k : Nat) (hk : k < 12) : wordsC[k]? = some (bs (wordsB.getD k [])) := by
  have h : k < wordsB.length := hk
  rw [wordsC_map]
  simp [h]
/-- a kind's word; a question mark for others -/
def wordOf (n : Int) : List UInt8 := if 1 ≤ n ∧ n ≤ 11 then wordsB.getD n.toNat [] else []
def toldOf (s : List UInt8) : List UInt8 := if s = [] then [63] else s
def headOf (n : Int) : List UInt8 := toldOf (wordOf n)
theorem wordsB_ne (k : Nat) (h0 : 1 ≤ k) (hk : k < 12) : wordsB.getD k [] ≠ [] := by
  have : ∀ k : Nat, k < 12 → 1 ≤ k → wordsB.getD k [] ≠ [] := by decide
  exact this k hk h0

set_option maxRecDepth 100000 in
set_option maxHeartbeats 4000000 in
theorem word_walk {w : World} (hw : WordsAt w) (n : Int) (h0 : -9223372036854775808 ≤ n) (h9 : n ≤ 9223372036854775807) :
    Calls Tryz.prog 19 #[.int .i64 n] w fun e w' => e = .returned (bs (wordOf n)) ∧ w' = w := by
  by_cases hn : 1 ≤ n ∧ n ≤ 11
  · obtain ⟨m, rfl⟩ : ∃ m : Nat, n = m := ⟨n.toNat, by omega⟩
    have hm : m < 12 := by omega
    have he : wordOf m = wordsB.getD m [] := by
      unfold wordOf
      rw [if_pos hn]; simp
    obtain ⟨⟨el, h3⟩, _⟩ := hw
    have hc : w.cell? ⟨2, m, none⟩ = some (bs (wordsB.getD m [])) := by
      simp only [World.cell?, h3]
      simpa using wordsC_at m hm
    rw [he]
    clear he h3
    generalize wordsB.getD m [] = s at *
    obtain ⟨h1, h2⟩ := hn
    go_enter Tryz.func19, Tryz.ntmps19
    go_wp2
    go_ret
    exact ⟨rfl, rfl⟩
  · have he : wordOf n = [] := by unfold wordOf; rw [if_neg hn]
    rw [he]
    by_cases h1 : 1 ≤ n
    · have h2 : 11 < n := by omega
      clear hw hn he
      go_enter Tryz.func19, Tryz.ntmps19
      go_wp2
      go_ret
      exact ⟨rfl, rfl⟩
    · have h2 : n < 1 := by omega
      clear hw hn he h1
      go_enter Tryz.func19, Tryz.ntmps19
      go_wp2
      go_ret
      exact ⟨rfl, rfl⟩

theorem told_walk (s : List UInt8) (w : World) : Calls Tryz.prog 18 #[bs s] w fun e w' => e = .returned (bs (toldOf s)) ∧ w' = w := by
  cases s with
  | nil =>
    unfold toldOf bs
    simp only [if_true]
    go_enter Tryz.func18, Tryz.ntmps18
    go_wp2
    go_ret
    exact ⟨rfl, rfl⟩
  | cons x l =>
    have he : (x :: l).isEmpty = false := rfl
    unfold toldOf bs
    rw [if_neg (by simp)]
    generalize (x :: l) = q at *
    go_enter Tryz.func18, Tryz.ntmps18
    go_wp2
    go_ret
    exact ⟨rfl, rfl⟩

noncomputable section
open Go.AX
set_option maxHeartbeats 0 in
theorem runWords : listOf (callsA Tryz.prog drawF noX 100 10 15 #[] (startH startL)) = some wordsC := by kernel_rfl
theorem words_walk (w : World) {eb eo : Nat → Nat} (h : ErrsAt w eb eo) (hw : WordsAt w) : Calls Tryz.prog 15 #[] w fun e w' => ∃ B o c, e = .returned (.slice (some ⟨B, o, none⟩) 12 c) ∧ B < w'.heap.size ∧ (∀ (j : Nat), j < 12 → w'.cell? ⟨B, o + j, none⟩ = some (bs (wordsB.getD j []))) ∧ Below w.heap.size w w' := by
  have := gives_run runWords (by decide) h hw
  refine this.mono fun e w' he => ?_
  obtain ⟨B, o, c, he, h2, h3, h4⟩ := he
  refine ⟨B, o, c, he, h2, fun j hj => h3 j _ ?_, h4⟩
  rw [List.getElem?_map, wordsC_at j hj]
  simp [bs, ren]
end

/-! ### report.number -/
set_option maxRecDepth 100000 in
set_option maxHeartbeats 4000000 in
theorem number1_walk {w : World} {eb eo : Nat → Nat} (h : ErrsAt w eb eo) (n j : Nat) (hn : n < 19) (hj : j < 19) {q qo : Nat} (hq : w.cell? ⟨q, qo, none⟩ = some (errV (eb n) (eo n))) :
    Calls Tryz.prog 39 #[errV (eb j) (eo j), .pointer (some ⟨q, qo, none⟩)] w fun e w' => e = .returned (.bool (Nat.beq n j)) ∧ w = w' := by
  have cis := is_any h n j hn hj
  clear h
  obtain ⟨x, hx⟩ : ∃ x, x = errV (eb n) (eo n) := ⟨_, rfl⟩
  obtain ⟨y, hy⟩ : ∃ y, y = errV (eb j) (eo j) := ⟨_, rfl⟩
  rw [← hx] at hq cis
  rw [← hy] at cis ⊢
  generalize Nat.beq n j = b at *
  clear hx hy
  go_enter Tryz.func39, Tryz.ntmps39
  go_wp2_with (go_at_call 21; refine cis.mono ?_; rintro e w' ⟨rfl, rfl⟩)
  go_ret
  exact ⟨rfl, rfl⟩
end Go.Proofs.YtnamakmnlagpgaaGreatDoor

namespace Go.Proofs.YtnamakmnlagpgaaGreatDoor
open Go Go.RowKit

set_option maxRecDepth 100000 in
set_option maxHeartbeats 4000000 in
theorem idx_walk {w : World} {eb eo : Nat → Nat} (h : ErrsAt w eb eo) (n : Nat) (hn : n < 19) (B O C q qo : Nat) (hcells : ∀ j, j < 19 → w.cell? ⟨B, O + j, none⟩ = some (errV (eb j) (eo j))) (hq : w.cell? ⟨q, qo, none⟩ = some (errV (eb n) (eo n))) :
    Calls Tryz.prog 38 #[.slice (some ⟨B, O, none⟩) 19 C, .func (.func 39) #[] #[.pointer (some ⟨q, qo, none⟩)]] w fun e w' => e = .returned (.int .i64 n) ∧ w = w' := by
  have c39 : ∀ j, j < 19 → Calls Tryz.prog 39 #[errV (eb j) (eo j), .pointer (some ⟨q, qo, none⟩)] w fun e w' => e = .returned (.bool (Nat.beq n j)) ∧ w = w' := fun j hj => number1_walk h n j hn hj hq
  have HC := Lib.hid hcells
  clear h hq hcells
  go_enter Tryz.func38, Tryz.ntmps38
  go_wp2
  go_loop [8] (fun i => ∃ k : Nat, k ≤ n ∧ i = .int .i64 k) (fun i => 19 - (intOf i).toNat)
  case atStart => exact ⟨0, Nat.zero_le _, rfl⟩
  case round =>
    obtain ⟨k, hk, rfl⟩ := hrel
    have hk19 : k < 19 := by omega
    have hcell := HC.out k hk19
    have hc := c39 k hk19
    clear c39
    by_cases hkn : n = k
    · have hb2 : Nat.beq n k = true := by subst hkn; simp
      rw [hb2] at hc
      clear hb2
      go_wp2_with (go_at_call 39; refine hc.mono ?_; rintro e w' ⟨rfl, rfl⟩)
      go_ret
      exact ⟨by rw [hkn]; rfl, rfl⟩
    · have hb2 : Nat.beq n k = false := AX.nbeq hkn
      rw [hb2] at hc
      clear hb2
      go_wp2_with (go_at_call 39; refine hc.mono ?_; rintro e w' ⟨rfl, rfl⟩)
      go_round
      case rel => exact ⟨k + 1, by omega, by go_num⟩
      case measure => simp [intOf]; omega

noncomputable section
open Go.AX
/-- the errors, kept in a run -/
def JE (eb eo : Nat → Nat) (ρ : Nat → AX.Loc) (h : H) (w : World) : Prop :=
  ErrsAt w eb eo ∧ roB ≤ h.size ∧ (∀ i, i < 19 → ren ρ (errA i) = errV (eb i) (eo i)) ∧ ∀ i, i < 19 → Off roB ρ h (gEL.getD i 0) ∧ Off roB ρ h (eb i)
theorem errA_ok (i : Nat) (hi : i < 19) : ok roB (errA i) = true := by
  have : (1000 + i) < roB := by unfold roB; omega
  simp [errA, errV, ok, this]
theorem keptE (eb eo : Nat → Nat) : KeptJ (JE eb eo) := by
  intro ρ h w ρ' h' w' st ⟨he, hs, hr, ho⟩
  refine ⟨⟨fun i hi => ?_, he.inj⟩, Nat.le_trans hs st.size, fun i hi => ?_, fun i hi => ?_⟩
  · obtain ⟨⟨el, h1⟩, ca, ta, h2⟩ := he.at1 i hi
    have l1 : gEL.getD i 0 < w.heap.size := (Array.getElem?_eq_some_iff.1 h1).1
    have l2 : eb i < w.heap.size := (Array.getElem?_eq_some_iff.1 h2).1
    exact ⟨⟨el, by rw [st.frame _ l1 (ho i hi).1]; exact h1⟩, ca, ta, by rw [st.frame _ l2 (ho i hi).2]; exact h2⟩
  · rw [← hr i hi]
    have hA : Agree roB ρ ρ' := fun b hb => st.agree b (Nat.lt_of_lt_of_le hb hs)
    exact ren_agree hA _ (errA_ok i hi)
  · obtain ⟨⟨el, h1⟩, ca, ta, h2⟩ := he.at1 i hi
    exact ⟨st.img roB (Nat.le_refl _) _ (Array.getElem?_eq_some_iff.1 h1).1 (ho i hi).1, st.img roB (Nat.le_refl _) _ (Array.getElem?_eq_some_iff.1 h2).1 (ho i hi).2⟩
theorem jE_start {w : World} {eb eo : Nat → Nat} (h : ErrsAt w eb eo) : JE eb eo (rhoE eb eo) (startH startL) w :=
  ⟨h, Nat.le_refl _, fun i hi => rhoE_err eb eo i hi, fun i hi => ⟨fun b k hb hg => by
    obtain ⟨cs, h1, _⟩ := startH_get hg
    have := startL_lt _ _ h1
    unfold roB at hb; omega, fun b k hb hg => by
    obtain ⟨cs, h1, _⟩ := startH_get hg
    have := startL_lt _ _ h1
    unfold roB at hb; omega⟩⟩

def allA : List Value := (List.range 19).map errA
def readIs (h : H) (b o n : Nat) (l : List Value) : Bool := match h.read b o n with
  | some l' => veqL l' l
  | none => false
theorem readIs_eq {h : H} {b o n : Nat} {l : List Value} (hr : readIs h b o n l = true) : h.read b o n = some l := by
  unfold readIs at hr
  split at hr
  · rename_i l' h1
    rw [h1, veqL_eq _ _ hr]
  · cases hr
def idxX (n : Nat) (args : Array Value) (h : H) : Option (Value × H) :=
  match args.toList with
  | [.slice (some ⟨b, o, none⟩) len c, .func (.func g) ⟨[]⟩ ⟨[.pointer (some ⟨q, qo, none⟩)]⟩] =>
    cond (Nat.beq len 19) (cond (Nat.beq g 39) (cond (readIs h b o 19 allA) (cond (readIs h q qo 1 [errA n]) (some (.int .i64 n, h)) none) none) none) none
  | _ => none
def callN (n : Nat) : AX.Call := fun f args h => cond (Nat.beq f 38) (idxX n args h) none
def DN (f : FuncId) (args : Array Value) : Prop := True

theorem callN_ok (eb eo : Nat → Nat) (n : Nat) (hn : n < 19) : CallJ (JE eb eo) Tryz.prog DN (callN n) := by
  intro f args h v h' hc hok hD
  unfold callN at hc
  obtain ⟨hf, hc⟩ := cond_some hc
  have := nbeq_true hf
  subst this
  obtain ⟨l⟩ := args
  unfold idxX at hc
  split at hc
  · rename_i b o len c g q qo hl
    simp only at hl
    subst hl
    obtain ⟨h1, hc⟩ := cond_some hc
    obtain ⟨h2, hc⟩ := cond_some hc
    obtain ⟨h3, hc⟩ := cond_some hc
    obtain ⟨h4, hc⟩ := cond_some hc
    simp only [Option.some.injEq, Prod.mk.injEq] at hc
    obtain ⟨rfl, rfl⟩ := hc
    have h1 := nbeq_true h1
    have h2 := nbeq_true h2
    subst h1 h2
    have h3 := readIs_eq h3
    have h4 := readIs_eq h4
    refine ⟨by simp [ok], fun ρ w s j => ?_⟩
    obtain ⟨he, _, hr, _⟩ := j
    obtain ⟨_, _, C1, el1, fz1, hC1, _, hat1⟩ := s.read h3
    obtain ⟨_, _, C2, el2, fz2, hC2, _, hat2⟩ := s.read h4
    have e : (⟨[.slice (some ⟨b, o, none⟩) 19 c, .func (.func 39) ⟨[]⟩ ⟨[.pointer (some ⟨q, qo, none⟩)]⟩]⟩ : Array Value).map (ren ρ) =
        #[.slice (some ⟨(ρ b).B, (ρ b).off + o, none⟩) 19 (renC ρ b c), .func (.func 39) #[] #[.pointer (some ⟨(ρ q).B, (ρ q).off + qo, none⟩)]] := by simp [ren, renA, renArr, renL]
    rw [e]
    refine (idx_walk he n hn _ _ _ _ _ (fun j hj => ?_) ?_).mono fun e w' he' => ?_
    · have h5 := hat1 j (errA j) (by simp [allA, hj])
      rw [hr j hj] at h5
      simp [World.cell?, hC1, h5]
    · have h5 := hat2 0 (errA n) (by simp)
      rw [hr n hn] at h5
      simp only [Nat.add_zero] at h5
      simp [World.cell?, hC2, h5]
    · obtain ⟨rfl, rfl⟩ := he'
      exact ⟨ρ, by simp [ren], s, Step.refl _ _ _⟩
  · cases hc

def isCall : Ob → Bool
  | .call _ _ => true
  | _ => false
def isInt (r : Option (Value × H × List Ob)) (n : Int) : Bool := match r with
  | some (.int .i64 m, _, lg) => intEq m n && lg.all isCall
  | _ => false
set_option maxHeartbeats 0 in
theorem runNumber : ((List.range 19).all fun n => isInt (funcG Tryz.prog (callN n) (fun _ => none) 100 Tryz.prog.funcs[24]? #[errA n] (startH startL)) (n + 1)) = true := by decide +kernel

theorem number_walk {w : World} {eb eo : Nat → Nat} (h : ErrsAt w eb eo) (hw : WordsAt w) (n : Nat) (hn : n < 19) :
    Calls Tryz.prog 24 #[errV (eb n) (eo n)] w fun e w' => e = .returned (.int .i64 (n + 1 : Nat)) ∧ Below w.heap.size w w' := by
  have hr := List.all_eq_true.1 runNumber n (List.mem_range.2 hn)
  unfold isInt at hr
  split at hr
  · rename_i m h' lg hg
    simp only [Bool.and_eq_true] at hr
    have hm := intEq_eq _ _ hr.1
    subst hm
    have hcall := funcG_okJ (keptE eb eo) noNum (callN_ok eb eo n hn) hg (fun x hx => ?_) ?_ (start_ok h hw) (jE_start h)
    · have e : (#[errA n] : Array Value).map (ren (rhoE eb eo)) = #[errV (eb n) (eo n)] := by simp [rhoE_err eb eo n hn]
      rw [e] at hcall
      refine hcall.mono fun e w' he => ?_
      obtain ⟨ρ', rfl, s, st⟩ := he
      exact ⟨by simp [ren], start_below st startL_lt⟩
    · have := List.all_eq_true.1 hr.2 x hx
      cases x with
      | call f args => trivial
      | val a b => cases this
      | add a b => cases this
    · rw [okA_eq]
      have := errA_ok n hn
      simp only [List.all_cons, List.all_nil, Bool.and_true]
      exact this
  · cases hr
end
end Go.Proofs.YtnamakmnlagpgaaGreatDoor
