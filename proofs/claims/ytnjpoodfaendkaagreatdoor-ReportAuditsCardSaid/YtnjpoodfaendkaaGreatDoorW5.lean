import Derived.Test.YtnjpoodfaendkaaGreatDoorCrc
set_option linter.unusedVariables false
set_option linter.unusedSimpArgs false
set_option linter.unusedVariables false
namespace Go.Proofs.YtnjpoodfaendkaaGreatDoor
open Go Go.RowKit Go.AX

/-- the table of layer 5 -/
def tabA : Array Value := #[.int .u32 0, .int .u32 498536548, .int .u32 997073096, .int .u32 651767980, .int .u32 1994146192, .int .u32 1802195444, .int .u32 1303535960, .int .u32 1342533948, .int .u32 3988292384, .int .u32 4027552580, .int .u32 3604390888, .int .u32 3412177804, .int .u32 2607071920, .int .u32 2262029012, .int .u32 2685067896, .int .u32 3183342108]
def tabV : Value := .agg tabA

theorem run26 : (callsS Tryz.prog (fun _ => none) 100 2 26 #[] h00).map (·.1) = some tabV := by kernel_rfl

theorem h00_below {ρ ρ' : Nat → AX.Loc} {h' : H} {w w' : World} (st : Step ρ h00 w ρ' h' w') : Below w.heap.size w w' := start_below st (fun _ _ h => by cases h)
theorem h00_sim (w : World) : Sim (fun b => ⟨b, 0, 0⟩) h00 w := start_sim (fun _ _ => rfl) (fun _ _ h => by cases h)

theorem noExt : ExtOK Tryz.prog (fun _ => none) := fun f g h => by cases h

/-- crc.table -/
theorem table_walk (w : World) : Calls Tryz.prog 26 #[] w fun e w' => e = .returned tabV ∧ Below w.heap.size w w' := by
  have h := run26
  cases hr : callsS Tryz.prog (fun _ => none) 100 2 26 #[] h00 with
  | none => rw [hr] at h; cases h
  | some r =>
    obtain ⟨v, h'⟩ := r
    rw [hr] at h
    simp only [Option.map_some, Option.some.injEq] at h
    subst h
    have hc := callsS_ok noNum noExt 100 2
    have hcalls := (hc.2 26 #[] h00 tabV h' hr (by simp [okA_eq])).2 (fun b => ⟨b, 0, 0⟩) w (h00_sim w)
    have e : (#[] : Array Value).map (ren fun b => ⟨b, 0, 0⟩) = #[] := by simp
    rw [e] at hcalls
    refine hcalls.mono fun e w' he => ?_
    obtain ⟨ρ', rfl, hs, st⟩ := he
    refine ⟨?_, h00_below st⟩
    have hf : free tabV = true := by simp [tabV, tabA, free, freeA, freeL]
    rw [ren_free ρ' tabV hf]

def tb (i : Nat) : BitVec 32 := stp4 (BitVec.ofNat 32 i)
theorem tabA_eq : tabA.toList = (List.range 16).map fun i => Value.int .u32 (u (tb i)) := by kernel_rfl
theorem tab_at (i : Nat) (h : i < 16) : tabA[i]? = some (.int .u32 (u (tb i))) := by
  rw [← Array.getElem?_toList, tabA_eq, List.getElem?_map, List.getElem?_range h]
  rfl

def bytesAt (w : World) (b o : Nat) (bs : List UInt8) : Prop := ∀ (j : Nat) x, bs[j]? = some x → w.cell? ⟨b, o + j, none⟩ = some (.int .u8 (x.toNat : Int))

theorem nib_u (X : BitVec 32) : bits .xor .u32 (u X / (16 : Int)) (u (tb (X &&& 15#32).toNat)) = u (stp4 X) := by
  rw [shr4_u, xor_u, ← nib X]
  unfold tb
  rw [BitVec.ofNat_toNat, BitVec.setWidth_eq]

theorem not_u (X : BitVec 32) : bits .xor .u32 IntKind.u32.max (u X) = u (~~~X) := by
  have e : IntKind.u32.max = u 4294967295#32 := rfl
  rw [e, xor_u]
  have : (4294967295#32) = BitVec.allOnes 32 := rfl
  rw [this, BitVec.allOnes_xor]

theorem cell_new (w1 : World) (cs : Array Value) (T : TypeId) (i : Nat) (v : Value) (h : cs[i]? = some v) : (w1.alloc (.cells cs T)).cell? ⟨w1.heap.size, i, none⟩ = some v := by
  show (({ w1 with heap := w1.heap.push (.cells cs T) } : World)).cell? ⟨w1.heap.size, i, none⟩ = some v
  simp [World.cell?, h]

set_option maxRecDepth 100000 in
set_option maxHeartbeats 4000000 in
theorem more_walk (S : BitVec 32) (b o c n : Nat) (bs : List UInt8) (w : World) (hn : bs.length = n) (hb : bytesAt w b o bs) (hm : n ≤ 1000000) (hbk : b < w.heap.size) :
    Calls Tryz.prog 17 #[.int .u32 (u S), .slice (some ⟨b, o, none⟩) n c] w fun e w' => e = .returned (.int .u32 (u (~~~(crcF (~~~S) bs)))) ∧ Below w.heap.size w w' := by
  go_enter Tryz.func17, Tryz.ntmps17
  go_wp2_with (first
    | (go_at_call 26; refine (table_walk _).mono ?_; rintro e w1 ⟨rfl, hb1⟩; simp only [tabV, tabA]))
  have hT0 : ∀ i, i < 16 → (w1.alloc (.cells tabA 79)).cell? ⟨w1.heap.size, i, none⟩ = some (.int .u32 (u (tb i))) := fun i hi => cell_new w1 tabA 79 i _ (tab_at i hi)
  have hB0 : ∀ (j : Nat) x, bs[j]? = some x → (w1.alloc (.cells tabA 79)).cell? ⟨b, o + j, none⟩ = some (.int .u8 (x.toNat : Int)) := fun j x hj => by
    rw [World.cell?_alloc_past _ _ _ (by have := hb1.size; show b < w1.heap.size; omega), ← hb j x hj]
    simp only [World.cell?, hb1.block b hbk]
  have hbel : Below w.heap.size w (w1.alloc (.cells tabA 79)) := hb1.alloc hb1.size _
  simp only [tabA] at hT0 hB0 hbel
  generalize w1.heap.size = tk at *
  generalize w1.alloc (.cells #[.int .u32 0, .int .u32 498536548, .int .u32 997073096, .int .u32 651767980, .int .u32 1994146192, .int .u32 1802195444, .int .u32 1303535960, .int .u32 1342533948, .int .u32 3988292384, .int .u32 4027552580, .int .u32 3604390888, .int .u32 3412177804, .int .u32 2607071920, .int .u32 2262029012, .int .u32 2685067896, .int .u32 3183342108] 79) = w2 at *
  go_loop [6, 14] (fun x i => ∃ k : Nat, k ≤ n ∧ i = .int .i64 k ∧ x = .int .u32 (u (crcF (~~~S) (bs.take k)))) (fun _ i => n - (intOf i).toNat)
  case atStart => exact ⟨0, Nat.zero_le _, rfl, by rw [not_u]; simp [crcF]⟩
  case round =>
    obtain ⟨k, hk, rfl, rfl⟩ := hrel
    by_cases hlt : k < n
    · have hl : k < bs.length := by omega
      have hcell := hB0 k bs[k] (List.getElem?_eq_getElem hl)
      have hnext : crcF (~~~S) (bs.take (k + 1)) = stp8 (crcF (~~~S) (bs.take k) ^^^ BitVec.ofNat 32 bs[k].toNat) := by
        rw [List.take_add_one, List.getElem?_eq_getElem hl]
        exact crcF_snoc _ _ _
      generalize hX : crcF (~~~S) (bs.take k) = X at *
      have hc : (bs[k].toNat : Int) = u (BitVec.ofNat 32 bs[k].toNat) := by
        unfold u
        rw [BitVec.toNat_ofNat, Nat.mod_eq_of_lt]
        have := bs[k].toNat_lt
        omega
      rw [hc] at hcell
      have hcl : u (BitVec.ofNat 32 bs[k].toNat) < 256 := by rw [← hc]; have := bs[k].toNat_lt; omega
      generalize BitVec.ofNat 32 bs[k].toNat = C at *
      have HN : Hid (crcF (~~~S) (bs.take (k + 1)) = stp8 (X ^^^ C)) := hnext
      have f1 := xor_u X C
      generalize X ^^^ C = Y at *
      have f3 := hT0 (Y &&& 15#32).toNat (by rw [← low4_u]; have := u_pos Y; omega)
      rw [← low4_u] at f3
      have f4 := nib_u Y
      rw [← low4_u] at f4
      have f6 := hT0 (stp4 Y &&& 15#32).toNat (by rw [← low4_u]; have := u_pos (stp4 Y); omega)
      rw [← low4_u] at f6
      have f7 := nib_u (stp4 Y)
      rw [← low4_u] at f7
      have p0 := u_pos C
      have p1 := u_pos Y
      have p3 := u_pos (stp4 Y)
      clear hT0 hB0 hb hnext hX hc
      go_wp2
      go_round
      case rel => exact ⟨k + 1, by omega, by go_num, by rw [HN.out]; rfl⟩
      case measure => simp [intOf]; omega
    · have : k = n := by omega
      subst this
      have f0 := not_u (crcF (~~~S) bs)
      rw [← hn, List.take_length]
      go_wp2
      go_ret
      exact ⟨rfl, hbel⟩
end Go.Proofs.YtnjpoodfaendkaaGreatDoor
