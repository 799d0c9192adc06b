import Derived.Below
import Derived.Orders
set_option linter.unusedVariables false
set_option linter.unusedSimpArgs false
namespace Go.AX
noncomputable section
open Go

theorem nbeq {a b : Nat} (h : a ≠ b) : Nat.beq a b = false := by
  cases e : Nat.beq a b
  · rfl
  · exact absurd (Nat.eq_of_beq_eq_true e) h
theorem nbeq_true {a b : Nat} (h : Nat.beq a b = true) : a = b := Nat.eq_of_beq_eq_true h
theorem nble_true {a b : Nat} (h : Nat.ble a b = true) : a ≤ b := Nat.le_of_ble_eq_true h

/-! ### a trie over Nat -/
inductive Tr (α : Type) where
  | nil
  | node (l : Tr α) (v : Option α) (r : Tr α)

namespace Tr
variable {α : Type}

/-- the way to a number's place -/
def way : Nat → Nat → List Bool
  | 0, _ => []
  | f + 1, n => cond (Nat.beq n 0) [] (cond (Nat.beq (n % 2) 1) (true :: way f (n / 2)) (false :: way f (n / 2 - 1)))

def num : List Bool → Nat
  | [] => 0
  | true :: p => 2 * num p + 1
  | false :: p => 2 * num p + 2

theorem num_way : ∀ (f n : Nat), n < f → num (way f n) = n := by
  intro f
  induction f with
  | zero => intro n h; omega
  | succ f ih =>
    intro n h
    unfold way
    by_cases h0 : n = 0
    · subst h0; rfl
    · rw [show Nat.beq n 0 = false from nbeq h0]
      simp only [cond_false]
      by_cases h1 : n % 2 = 1
      · rw [show Nat.beq (n % 2) 1 = true by simp [h1]]
        simp only [cond_true, num]
        rw [ih _ (by omega)]; omega
      · rw [show Nat.beq (n % 2) 1 = false from nbeq h1]
        simp only [cond_false, num]
        rw [ih _ (by omega)]; omega

theorem way_inj {n m : Nat} (h : way (n + 1) n = way (m + 1) m) : n = m := by
  rw [← num_way (n + 1) n (by omega), h, num_way (m + 1) m (by omega)]

def getL (p : List Bool) : Tr α → Option α :=
  List.rec (motive := fun _ => Tr α → Option α) (fun t => Tr.rec (motive := fun _ => Option α) none (fun _ v _ _ _ => v) t)
    (fun b _ ih t => Tr.rec (motive := fun _ => Option α) none (fun l _ r _ _ => ih (Bool.rec (motive := fun _ => Tr α) r l b)) t) p

/-- the trie's head first -/
def frc {β : Type} (t : Tr α) (k : Tr α → β) : β := Tr.rec (motive := fun _ => β) (k .nil) (fun l v r _ _ => k (.node l v r)) t

theorem frc_eq {β : Type} (t : Tr α) (k : Tr α → β) : frc t k = k t := by cases t <;> rfl

def setL (v : Option α) (p : List Bool) : Tr α → Tr α :=
  List.rec (motive := fun _ => Tr α → Tr α) (fun t => Tr.rec (motive := fun _ => Tr α) (.node .nil v .nil) (fun l _ r _ _ => .node l v r) t)
    (fun b _ ih t => Tr.rec (motive := fun _ => Tr α)
      (Bool.rec (motive := fun _ => Tr α) (frc (ih .nil) fun r => .node .nil none r) (frc (ih .nil) fun l => .node l none .nil) b)
      (fun l x r _ _ => Bool.rec (motive := fun _ => Tr α) (frc (ih r) fun r => .node l x r) (frc (ih l) fun l => .node l x r) b) t) p

def get (t : Tr α) (n : Nat) : Option α := getL (way (n + 1) n) t
def set (t : Tr α) (n : Nat) (v : α) : Tr α := setL (some v) (way (n + 1) n) t

theorem getL_nil (p : List Bool) : (getL p (.nil : Tr α)) = none := by cases p <;> rfl
theorem get_nil (n : Nat) : (Tr.nil : Tr α).get n = none := getL_nil _
theorem getL_cons (b : Bool) (p : List Bool) (l r : Tr α) (x : Option α) : getL (b :: p) (.node l x r) = getL p (cond b l r) := by cases b <;> rfl
theorem getL_node (l r : Tr α) (x : Option α) : getL [] (.node l x r) = x := rfl
theorem setL_nil_nil (v : Option α) : setL v [] .nil = .node .nil v .nil := rfl
theorem setL_nil_node (v : Option α) (l r : Tr α) (x : Option α) : setL v [] (.node l x r) = .node l v r := rfl
theorem setL_cons_nil (v : Option α) (b : Bool) (p : List Bool) : setL v (b :: p) .nil = cond b (.node (setL v p .nil) none Tr.nil) (.node .nil none (setL v p .nil)) := by
  cases b
  · exact frc_eq (setL v p .nil) fun r => Tr.node Tr.nil none r
  · exact frc_eq (setL v p .nil) fun l => Tr.node l none Tr.nil
theorem setL_cons_node (v : Option α) (b : Bool) (p : List Bool) (l r : Tr α) (x : Option α) : setL v (b :: p) (.node l x r) = cond b (.node (setL v p l) x r) (.node l x (setL v p r)) := by
  cases b
  · exact frc_eq (setL v p r) fun r => Tr.node l x r
  · exact frc_eq (setL v p l) fun l => Tr.node l x r

theorem getL_setL (v : Option α) : ∀ (p q : List Bool) (t : Tr α), getL q (setL v p t) = if q = p then v else getL q t := by
  intro p
  induction p with
  | nil =>
    intro q t
    cases t with
    | nil => cases q with
      | nil => rfl
      | cons b q => cases b <;> simp [setL_nil_nil, getL_cons, getL_nil]
    | node l x r => cases q with
      | nil => rfl
      | cons b q => simp [setL_nil_node, getL_cons]
  | cons b p ih =>
    intro q t
    cases t with
    | nil =>
      simp only [setL_cons_nil]
      cases q with
      | nil => cases b <;> simp [getL_node, getL_nil]
      | cons c q => cases b <;> cases c <;> simp [getL_cons, ih, getL_nil]
    | node l x r =>
      simp only [setL_cons_node]
      cases q with
      | nil => cases b <;> simp [getL_node]
      | cons c q => cases b <;> cases c <;> simp [getL_cons, ih]

theorem get_set (t : Tr α) (n m : Nat) (v : α) : (t.set n v).get m = if m = n then some v else t.get m := by
  unfold get set
  rw [getL_setL]
  by_cases e : m = n
  · subst e; simp
  · rw [if_neg (fun h => e (way_inj h)), if_neg e]
theorem get_set_same (t : Tr α) (n : Nat) (v : α) : (t.set n v).get n = some v := by simp [get_set]
theorem get_set_ne (t : Tr α) {n m : Nat} (v : α) (h : m ≠ n) : (t.set n v).get m = t.get m := by simp [get_set, h]
end Tr

theorem cond_some {β : Type} {b : Bool} {x : Option β} {y : β} (h : cond b x none = some y) : b = true ∧ x = some y := by
  cases b <;> simp_all

/-! ### renaming -/
structure Loc where
  B : Nat
  off : Nat
  ex : Nat

/-- an abstract capacity: twice the capacity; or twice a lower bound, and one -/

def renA (ρ : Nat → Loc) (a : Addr) : Addr := ⟨(ρ a.block).B, (ρ a.block).off + a.off, a.spot⟩
def renC (ρ : Nat → Loc) (b c : Nat) : Nat := cond (Nat.beq (c % 2) 1) (c / 2 + (ρ b).ex) (c / 2)

mutual
def ren (ρ : Nat → Loc) : Value → Value
  | .pointer (some a) => .pointer (some (renA ρ a))
  | .slice (some a) l c => .slice (some (renA ρ a)) l (renC ρ a.block c)
  | .map (some r) => .map (some (ρ r).B)
  | .func fn x y => .func fn (renArr ρ x) (renArr ρ y)
  | .iface t v => .iface t (ren ρ v)
  | .agg a => .agg (renArr ρ a)
  | .tuple a => .tuple (renArr ρ a)
  | .bool b => .bool b
  | .int k n => .int k n
  | .float k b => .float k b
  | .complex k r i => .complex k r i
  | .string s => .string s
  | .pointer none => .pointer none
  | .slice none l c => .slice none l c
  | .map none => .map none
  | .chan r => .chan r
  | .nilFunc => .nilFunc
  | .nilIface => .nilIface
def renArr (ρ : Nat → Loc) : Array Value → Array Value
  | ⟨l⟩ => ⟨renL ρ l⟩
def renL (ρ : Nat → Loc) : List Value → List Value
  | [] => []
  | v :: l => ren ρ v :: renL ρ l
end

mutual
/-- no address in it -/
def free : Value → Bool
  | .pointer (some _) => false
  | .slice (some _) _ _ => false
  | .map (some _) => false
  | .chan (some _) => false
  | .func _ x y => cond (freeA x) (freeA y) false
  | .iface _ v => free v
  | .agg a => freeA a
  | .tuple a => freeA a
  | .bool _ => true
  | .int _ _ => true
  | .float _ _ => true
  | .complex _ _ _ => true
  | .string _ => true
  | .pointer none => true
  | .slice none _ _ => true
  | .map none => true
  | .chan none => true
  | .nilFunc => true
  | .nilIface => true
def freeA : Array Value → Bool
  | ⟨l⟩ => freeL l
def freeL : List Value → Bool
  | [] => true
  | v :: l => cond (free v) (freeL l) false
end

mutual
/-- all blocks that it names are below n -/
def ok (n : Nat) : Value → Bool
  | .pointer (some a) => Nat.blt a.block n
  | .slice (some a) _ _ => Nat.blt a.block n
  | .map (some r) => Nat.blt r n
  | .chan (some _) => false
  | .func _ x y => cond (okA n x) (okA n y) false
  | .iface _ v => ok n v
  | .agg a => okA n a
  | .tuple a => okA n a
  | .bool _ => true
  | .int _ _ => true
  | .float _ _ => true
  | .complex _ _ _ => true
  | .string _ => true
  | .pointer none => true
  | .slice none _ _ => true
  | .map none => true
  | .chan none => true
  | .nilFunc => true
  | .nilIface => true
def okA (n : Nat) : Array Value → Bool
  | ⟨l⟩ => okL n l
def okL (n : Nat) : List Value → Bool
  | [] => true
  | v :: l => cond (ok n v) (okL n l) false
end

theorem renL_eq (ρ : Nat → Loc) : ∀ l : List Value, renL ρ l = l.map (ren ρ)
  | [] => by simp [renL]
  | v :: l => by simp [renL, renL_eq ρ l]
theorem renArr_toList (ρ : Nat → Loc) (a : Array Value) : (renArr ρ a).toList = a.toList.map (ren ρ) := by
  cases a; simp [renArr, renL_eq]
theorem renArr_eq (ρ : Nat → Loc) (a : Array Value) : renArr ρ a = a.map (ren ρ) := by
  apply Array.ext'; simp [renArr_toList]
theorem freeL_eq : ∀ l : List Value, freeL l = l.all free
  | [] => by simp [freeL]
  | v :: l => by simp [freeL, freeL_eq l, Bool.cond_false_right]
theorem okL_eq (n : Nat) : ∀ l : List Value, okL n l = l.all (ok n)
  | [] => by simp [okL]
  | v :: l => by simp [okL, okL_eq n l, Bool.cond_false_right]
theorem okA_eq (n : Nat) (a : Array Value) : okA n a = a.toList.all (ok n) := by cases a; simp [okA, okL_eq]
theorem freeA_eq (a : Array Value) : freeA a = a.toList.all free := by cases a; simp [freeA, freeL_eq]

mutual
theorem ren_free (ρ : Nat → Loc) : ∀ v : Value, free v = true → ren ρ v = v
  | .pointer (some a), h => by simp [free] at h
  | .slice (some a) _ _, h => by simp [free] at h
  | .map (some _), h => by simp [free] at h
  | .chan (some _), h => by simp [free] at h
  | .func fn x y, h => by
    simp only [free, Bool.cond_false_right, Bool.and_eq_true] at h
    simp only [ren]; rw [renArr_free ρ x h.1, renArr_free ρ y h.2]
  | .iface t v, h => by simp only [free] at h; simp only [ren]; rw [ren_free ρ v h]
  | .agg a, h => by simp only [free] at h; simp only [ren]; rw [renArr_free ρ a h]
  | .tuple a, h => by simp only [free] at h; simp only [ren]; rw [renArr_free ρ a h]
  | .bool _, _ => by simp only [ren]
  | .int _ _, _ => by simp only [ren]
  | .float _ _, _ => by simp only [ren]
  | .complex _ _ _, _ => by simp only [ren]
  | .string _, _ => by simp only [ren]
  | .pointer none, _ => by simp only [ren]
  | .slice none _ _, _ => by simp only [ren]
  | .map none, _ => by simp only [ren]
  | .chan none, _ => by simp only [ren]
  | .nilFunc, _ => by simp only [ren]
  | .nilIface, _ => by simp only [ren]
theorem renArr_free (ρ : Nat → Loc) : ∀ a : Array Value, freeA a = true → renArr ρ a = a
  | ⟨l⟩, h => by simp only [freeA] at h; simp only [renArr]; rw [renL_free ρ l h]
theorem renL_free (ρ : Nat → Loc) : ∀ l : List Value, freeL l = true → renL ρ l = l
  | [], _ => by simp only [renL]
  | v :: l, h => by
    simp only [freeL, Bool.cond_false_right, Bool.and_eq_true] at h
    simp only [renL]; rw [ren_free ρ v h.1, renL_free ρ l h.2]
end

/-- two renamings that agree below n -/
def Agree (n : Nat) (ρ ρ' : Nat → Loc) : Prop := ∀ b, b < n → ρ' b = ρ b
theorem Agree.refl (n : Nat) (ρ : Nat → Loc) : Agree n ρ ρ := fun _ _ => rfl
theorem Agree.trans {n m : Nat} {a b c : Nat → Loc} (h : Agree n a b) (k : Agree m b c) (hm : n ≤ m) : Agree n a c :=
  fun i hi => (k i (by omega)).trans (h i hi)

theorem blt_true {a b : Nat} : Nat.blt a b = true ↔ a < b := by
  rw [Nat.blt, Nat.ble_eq]; omega

mutual
theorem ren_agree {n : Nat} {ρ ρ' : Nat → Loc} (hA : Agree n ρ ρ') : ∀ v : Value, ok n v = true → ren ρ' v = ren ρ v
  | .pointer (some a), h => by
    simp only [ok, blt_true] at h; simp only [ren, renA]; rw [hA _ h]
  | .slice (some a) _ _, h => by simp only [ok, blt_true] at h; simp only [ren, renA, renC]; rw [hA _ h]
  | .map (some _), h => by simp only [ok, blt_true] at h; simp only [ren]; rw [hA _ h]
  | .chan (some _), h => by simp [ok] at h
  | .func fn x y, h => by
    simp only [ok, Bool.cond_false_right, Bool.and_eq_true] at h
    simp only [ren]; rw [renArr_agree hA x h.1, renArr_agree hA y h.2]
  | .iface t v, h => by simp only [ok] at h; simp only [ren]; rw [ren_agree hA v h]
  | .agg a, h => by simp only [ok] at h; simp only [ren]; rw [renArr_agree hA a h]
  | .tuple a, h => by simp only [ok] at h; simp only [ren]; rw [renArr_agree hA a h]
  | .bool _, _ => by simp only [ren]
  | .int _ _, _ => by simp only [ren]
  | .float _ _, _ => by simp only [ren]
  | .complex _ _ _, _ => by simp only [ren]
  | .string _, _ => by simp only [ren]
  | .pointer none, _ => by simp only [ren]
  | .slice none _ _, _ => by simp only [ren]
  | .map none, _ => by simp only [ren]
  | .chan none, _ => by simp only [ren]
  | .nilFunc, _ => by simp only [ren]
  | .nilIface, _ => by simp only [ren]
theorem renArr_agree {n : Nat} {ρ ρ' : Nat → Loc} (hA : Agree n ρ ρ') : ∀ a : Array Value, okA n a = true → renArr ρ' a = renArr ρ a
  | ⟨l⟩, h => by simp only [okA] at h; simp only [renArr]; rw [renL_agree hA l h]
theorem renL_agree {n : Nat} {ρ ρ' : Nat → Loc} (hA : Agree n ρ ρ') : ∀ l : List Value, okL n l = true → renL ρ' l = renL ρ l
  | [], _ => by simp only [renL]
  | v :: l, h => by
    simp only [okL, Bool.cond_false_right, Bool.and_eq_true] at h
    simp only [renL]; rw [ren_agree hA v h.1, renL_agree hA l h.2]
end

mutual
theorem ok_mono {n m : Nat} (hm : n ≤ m) : ∀ v : Value, ok n v = true → ok m v = true
  | .pointer (some a), h => by simp only [ok, blt_true] at *; omega
  | .slice (some a) _ _, h => by simp only [ok, blt_true] at *; omega
  | .map (some _), h => by simp only [ok, blt_true] at *; omega
  | .chan (some _), h => by simp [ok] at h
  | .func fn x y, h => by
    simp only [ok, Bool.cond_false_right, Bool.and_eq_true] at *
    exact ⟨okA_mono hm x h.1, okA_mono hm y h.2⟩
  | .iface t v, h => by simp only [ok] at *; exact ok_mono hm v h
  | .agg a, h => by simp only [ok] at *; exact okA_mono hm a h
  | .tuple a, h => by simp only [ok] at *; exact okA_mono hm a h
  | .bool _, _ => by simp only [ok]
  | .int _ _, _ => by simp only [ok]
  | .float _ _, _ => by simp only [ok]
  | .complex _ _ _, _ => by simp only [ok]
  | .string _, _ => by simp only [ok]
  | .pointer none, _ => by simp only [ok]
  | .slice none _ _, _ => by simp only [ok]
  | .map none, _ => by simp only [ok]
  | .chan none, _ => by simp only [ok]
  | .nilFunc, _ => by simp only [ok]
  | .nilIface, _ => by simp only [ok]
theorem okA_mono {n m : Nat} (hm : n ≤ m) : ∀ a : Array Value, okA n a = true → okA m a = true
  | ⟨l⟩, h => by simp only [okA] at *; exact okL_mono hm l h
theorem okL_mono {n m : Nat} (hm : n ≤ m) : ∀ l : List Value, okL n l = true → okL m l = true
  | [], _ => by simp only [okL]
  | v :: l, h => by
    simp only [okL, Bool.cond_false_right, Bool.and_eq_true] at *
    exact ⟨ok_mono hm v h.1, okL_mono hm l h.2⟩
end

mutual
theorem ok_free {n : Nat} : ∀ v : Value, free v = true → ok n v = true
  | .pointer (some a), h => by simp [free] at h
  | .slice (some a) _ _, h => by simp [free] at h
  | .map (some _), h => by simp [free] at h
  | .chan (some _), h => by simp [free] at h
  | .func fn x y, h => by
    simp only [free, ok, Bool.cond_false_right, Bool.and_eq_true] at *
    exact ⟨okA_free x h.1, okA_free y h.2⟩
  | .iface t v, h => by simp only [free, ok] at *; exact ok_free v h
  | .agg a, h => by simp only [free, ok] at *; exact okA_free a h
  | .tuple a, h => by simp only [free, ok] at *; exact okA_free a h
  | .bool _, _ => by simp only [ok]
  | .int _ _, _ => by simp only [ok]
  | .float _ _, _ => by simp only [ok]
  | .complex _ _ _, _ => by simp only [ok]
  | .string _, _ => by simp only [ok]
  | .pointer none, _ => by simp only [ok]
  | .slice none _ _, _ => by simp only [ok]
  | .map none, _ => by simp only [ok]
  | .chan none, _ => by simp only [ok]
  | .nilFunc, _ => by simp only [ok]
  | .nilIface, _ => by simp only [ok]
theorem okA_free {n : Nat} : ∀ a : Array Value, freeA a = true → okA n a = true
  | ⟨l⟩, h => by simp only [freeA, okA] at *; exact okL_free l h
theorem okL_free {n : Nat} : ∀ l : List Value, freeL l = true → okL n l = true
  | [], _ => by simp only [okL]
  | v :: l, h => by
    simp only [freeL, okL, Bool.cond_false_right, Bool.and_eq_true] at *
    exact ⟨ok_free v h.1, okL_free l h.2⟩
end

theorem ren_cells (ρ : Nat → Loc) (v : Value) : (ren ρ v).cells.toList = v.cells.toList.map (ren ρ) := by
  cases v with
  | agg a => simp [ren, Value.cells, renArr_toList]
  | pointer a => cases a <;> simp [ren, Value.cells]
  | slice a l c => cases a <;> simp [ren, Value.cells]
  | map r => cases r <;> simp [ren, Value.cells]
  | _ => simp [ren, Value.cells]

def cellB : Value → Bool
  | .agg _ => false
  | .tuple _ => false
  | _ => true

theorem ren_cellB (ρ : Nat → Loc) (v : Value) : cellB (ren ρ v) = cellB v := by
  cases v with
  | pointer a => cases a <;> simp only [ren, cellB]
  | slice a l c => cases a <;> simp only [ren, cellB]
  | map r => cases r <;> simp only [ren, cellB]
  | _ => simp only [ren, cellB]

/-! ### the value of a Sem that asks nothing of the world -/
def pv {α : Type} (p : Program) : Sem α → Option α
  | .pure a => some a
  | .program k => pv p (k p)
  | .mark _ k => pv p k
  | _ => none

theorem pv_run {α : Type} (p : Program) : ∀ (s : Sem α) (a : α), pv p s = some a → ∀ w, s.run p w = .ok a w
  | .pure b, a, h, w => by simp only [pv, Option.some.injEq] at h; subst h; rfl
  | .program k, a, h, w => by simp only [pv] at h; simp only [Sem.run]; exact pv_run p (k p) a h w
  | .mark _ k, a, h, w => by simp only [pv] at h; simp only [Sem.run]; exact pv_run p k a h w
  | .load .., _, h, _ => by simp [pv] at h
  | .store .., _, h, _ => by simp [pv] at h
  | .new .., _, h, _ => by simp [pv] at h
  | .shape .., _, h, _ => by simp [pv] at h
  | .freeze .., _, h, _ => by simp [pv] at h
  | .frozen .., _, h, _ => by simp [pv] at h
  | .getObj .., _, h, _ => by simp [pv] at h
  | .setObj .., _, h, _ => by simp [pv] at h
  | .choose .., _, h, _ => by simp [pv] at h
  | .sys .., _, h, _ => by simp [pv] at h
  | .halt .., _, h, _ => by simp [pv] at h

end
end Go.AX

namespace Go.AX
noncomputable section
open Go

def roB : Nat := 2000

inductive Blk where
  | cells (cs : List Value) (co g k sz : Nat)
  | map (es : List MapEntry) (clock : Nat)
  | siter (s : ByteArray) (pos : Nat)
  | miter (m : Option Nat) (since : Nat) (seen : List Nat) (stepped : Nat)

structure Grp where
  own : Nat
  mem : List Nat
  ext : Nat

structure H where
  blks : Tr Blk
  grps : Tr Grp
  size : Nat

def H.put (h : H) (b : Nat) (k : Blk) : H := { blks := h.blks.set b k, grps := h.grps, size := h.size }
def H.new (h : H) (k : Blk) : H := { blks := h.blks.set h.size k, grps := h.grps, size := h.size + 1 }

/-- a row of one's own -/
def H.newCells (h : H) (cs : List Value) (k sz : Nat) : H := h.new (.cells cs 0 h.size k sz)

def H.read (h : H) (b o n : Nat) : Option (List Value) :=
  match h.blks.get b with
  | some (.cells cs _ _ _ _) => cond (Nat.ble (o + n) cs.length) (some ((cs.drop o).take n)) none
  | _ => none

def cutBlk (c : Nat) : Blk → Blk
  | .cells cs co g k sz => .cells (cs.take (c - co)) co g k sz
  | x => x

def cutL (b c : Nat) : List Nat → Tr Blk → Tr Blk
  | [], t => t
  | x :: l, t => cutL b c l (cond (Nat.beq x b) t (match t.get x with
    | some k => t.set x (cutBlk c k)
    | none => t))

def H.trim (h : H) (b g c : Nat) : H :=
  match h.grps.get g with
  | none => h
  | some gr => cond (cond (Nat.beq gr.own b) (Nat.ble gr.ext c) false) h
      { blks := cutL b c gr.mem h.blks, grps := h.grps.set g { own := b, mem := gr.mem, ext := c }, size := h.size }

def splice (cs : List Value) (o : Nat) (vs : List Value) : List Value := cs.take o ++ (vs ++ cs.drop (o + vs.length))

def H.write (h : H) (b o : Nat) (vs : List Value) : Option H :=
  match h.blks.get b with
  | some (.cells cs co g k sz) =>
    cond (Nat.ble (o + vs.length) cs.length) (cond (Nat.ble roB b)
      (some ((h.trim b g (co + o)).put b (.cells (splice cs o vs) co g k sz))) none) none
  | _ => none

theorem splice_get (cs : List Value) (o : Nat) (vs : List Value) (h : o + vs.length ≤ cs.length) (i : Nat) :
    (splice cs o vs)[i]? = if o ≤ i ∧ i < o + vs.length then vs[i - o]? else cs[i]? := by
  unfold splice
  by_cases h1 : i < o
  · rw [List.getElem?_append_left (by simp; omega), if_neg (by omega), List.getElem?_take, if_pos h1]
  · rw [List.getElem?_append_right (by simp; omega)]
    simp only [List.length_take]
    rw [Nat.min_eq_left (by omega)]
    by_cases h2 : i < o + vs.length
    · rw [if_pos ⟨by omega, h2⟩, List.getElem?_append_left (by omega)]
    · rw [if_neg (by omega), List.getElem?_append_right (by omega), List.getElem?_drop]
      congr 1; omega

theorem splice_length (cs : List Value) (o : Nat) (vs : List Value) (h : o + vs.length ≤ cs.length) : (splice cs o vs).length = cs.length := by
  unfold splice; simp; omega

/-! ### the relation -/
def renE (ρ : Nat → Loc) (e : MapEntry) : MapEntry := { key := e.key, val := ren ρ e.val, born := e.born }

/-- no cell of the row is frozen -/
def FzOK (n : Nat) (fz : Nat × Nat) : Prop := fz.1 = fz.2 ∨ n ≤ fz.1
theorem FzOK.no {n : Nat} {fz : Nat × Nat} (h : FzOK n fz) : ∀ j, j < n → ¬ (fz.1 ≤ j ∧ j < fz.2) := by
  intro j hj
  rcases h with h | h <;> omega

def CellsAt (ρ : Nat → Loc) (L : Loc) (cs : List Value) (k sz : Nat) (w : World) : Prop :=
  ∃ C el fz, w.heap[L.B]? = some (.cells C el fz) ∧ (∀ i v, cs[i]? = some v → C[L.off + i]? = some (ren ρ v)) ∧
    FzOK C.size fz ∧ L.off + k + L.ex * sz ≤ C.size

def BlkOK (ρ : Nat → Loc) (n : Nat) (L : Loc) (w : World) : Blk → Prop
  | .cells cs _ _ k sz => (∀ v, v ∈ cs → ok n v = true) ∧ CellsAt ρ L cs k sz w
  | .map es clock => (∀ e, e ∈ es → free e.key = true ∧ ok n e.val = true) ∧ w.heap[L.B]? = some (.map (es.map (renE ρ)).toArray clock)
  | .siter s pos => L.off = 0 ∧ w.heap[L.B]? = some (.stringIter s pos)
  | .miter m since seen stepped => L.off = 0 ∧ (∀ r, m = some r → r < n) ∧ w.heap[L.B]? = some (.mapIter (m.map fun r => (ρ r).B) since seen.toArray stepped)

def Mates (L1 L2 : Loc) : Blk → Blk → Prop
  | .cells _ co1 g1 _ _, .cells _ co2 g2 _ _ => g1 = g2 ∧ L1.off + co2 = L2.off + co1
  | _, _ => False

def GrpOK (h : H) (b : Nat) : Blk → Prop
  | .cells cs co g _ _ => match h.grps.get g with
    | none => g = b
    | some gr => b ∈ gr.mem ∧ (b ≠ gr.own → ∀ i, i < cs.length → co + i < gr.ext)
  | _ => True

structure Sim (ρ : Nat → Loc) (h : H) (w : World) : Prop where
  lt : ∀ b k, h.blks.get b = some k → b < h.size
  obj : ∀ b k, h.blks.get b = some k → BlkOK ρ h.size (ρ b) w k
  sep : ∀ b1 b2 k1 k2, h.blks.get b1 = some k1 → h.blks.get b2 = some k2 → b1 ≠ b2 → (ρ b1).B = (ρ b2).B → Mates (ρ b1) (ρ b2) k1 k2
  grp : ∀ b k, h.blks.get b = some k → GrpOK h b k
  gsz : ∀ g gr, h.grps.get g = some gr → g < h.size
  glob : ∀ g, g < 1000 → ρ g = ⟨g, 0, 0⟩
  big : roB ≤ h.size

def Off (r : Nat) (ρ : Nat → Loc) (h : H) (B : Nat) : Prop := ∀ b k, r ≤ b → h.blks.get b = some k → (ρ b).B ≠ B

structure Step (ρ : Nat → Loc) (h : H) (w : World) (ρ' : Nat → Loc) (h' : H) (w' : World) : Prop where
  agree : Agree h.size ρ ρ'
  size : h.size ≤ h'.size
  os : w'.os = w.os
  tape : w'.tape = w.tape
  output : w'.output = w.output
  hsize : w.heap.size ≤ w'.heap.size
  frame : ∀ B, B < w.heap.size → Off roB ρ h B → w'.heap[B]? = w.heap[B]?
  img : ∀ r, r ≤ roB → ∀ B, B < w.heap.size → Off r ρ h B → Off r ρ' h' B

theorem Step.refl (ρ : Nat → Loc) (h : H) (w : World) : Step ρ h w ρ h w :=
  ⟨Agree.refl _ _, Nat.le_refl _, rfl, rfl, rfl, Nat.le_refl _, fun _ _ _ => rfl, fun _ _ _ _ h => h⟩

theorem Step.trans {ρ ρ1 ρ2 : Nat → Loc} {h h1 h2 : H} {w w1 w2 : World} (a : Step ρ h w ρ1 h1 w1) (b : Step ρ1 h1 w1 ρ2 h2 w2) : Step ρ h w ρ2 h2 w2 := {
  agree := a.agree.trans b.agree a.size
  size := Nat.le_trans a.size b.size
  os := b.os.trans a.os
  tape := b.tape.trans a.tape
  output := b.output.trans a.output
  hsize := Nat.le_trans a.hsize b.hsize
  frame := fun B hB ho => (b.frame B (Nat.lt_of_lt_of_le hB a.hsize) (a.img _ (Nat.le_refl _) B hB ho)).trans (a.frame B hB ho)
  img := fun r hr B hB ho => b.img r hr B (Nat.lt_of_lt_of_le hB a.hsize) (a.img r hr B hB ho) }

/-- the world with another count of draws -/
theorem Sim.drawn {ρ : Nat → Loc} {h : H} {w : World} (s : Sim ρ h w) (n : Nat) : Sim ρ h { w with drawn := n } :=
  ⟨s.lt, fun b k e => by have := s.obj b k e; cases k <;> exact this, s.sep, s.grp, s.gsz, s.glob, s.big⟩
theorem Step.drawn (ρ : Nat → Loc) (h : H) (w : World) (n : Nat) : Step ρ h w ρ h { w with drawn := n } :=
  ⟨Agree.refl _ _, Nat.le_refl _, rfl, rfl, rfl, Nat.le_refl _, fun _ _ _ => rfl, fun _ _ _ _ h => h⟩

/-! ### reading -/
theorem Sim.read {ρ : Nat → Loc} {h : H} {w : World} (s : Sim ρ h w) {b o n : Nat} {l : List Value} (hr : h.read b o n = some l) :
    l.length = n ∧ (∀ v, v ∈ l → ok h.size v = true) ∧
    ∃ C el fz, w.heap[(ρ b).B]? = some (.cells C el fz) ∧ (ρ b).off + o + n ≤ C.size ∧ ∀ i v, l[i]? = some v → C[(ρ b).off + o + i]? = some (ren ρ v) := by
  unfold H.read at hr
  split at hr
  · rename_i cs co g k sz hb
    obtain ⟨h1, h2⟩ := cond_some hr
    have h1 := nble_true h1
    simp only [Option.some.injEq] at h2
    subst h2
    obtain ⟨hok, C, el, fz, hC, hcs, hfz, hk⟩ := s.obj b _ hb
    refine ⟨by simp; omega, fun v hv => hok v (List.mem_of_mem_drop (List.mem_of_mem_take hv)), C, el, fz, hC, ?_, fun i v hi => ?_⟩
    · by_cases hn : o + n = 0
      · have : (ρ b).off ≤ C.size := by omega
        omega
      · have hlt : o + n - 1 < cs.length := by omega
        have := hcs (o + n - 1) _ (List.getElem?_eq_getElem hlt)
        have := (Array.getElem?_eq_some_iff.1 this).1
        omega
    · rw [List.getElem?_take] at hi
      split at hi
      · rw [List.getElem?_drop] at hi
        have := hcs (o + i) v hi
        rwa [← Nat.add_assoc] at this
      · cases hi
  · cases hr

/-! ### writing cells of one block -/
def World.putB (w : World) (B : Nat) (o : Obj) : World := { w with heap := w.heap.setIfInBounds B o }

theorem putB_get {w : World} {B : Nat} {o : Obj} (h : B < w.heap.size) (i : Nat) : (World.putB w B o).heap[i]? = if i = B then some o else w.heap[i]? := by
  simp only [World.putB, Array.getElem?_setIfInBounds]
  by_cases e : B = i
  · subst e; simp [h]
  · simp [e, Ne.symm e]

theorem setCell_putB {w : World} {B o : Nat} {C : Array Value} {el : TypeId} {fz : Nat × Nat} {v : Value} (h : w.heap[B]? = some (.cells C el fz)) :
    w.setCell ⟨B, o, none⟩ v = World.putB w B (.cells (C.setIfInBounds o v) el fz) := by
  obtain ⟨hlt, hg⟩ := Array.getElem?_eq_some_iff.1 h
  unfold World.setCell World.putB
  congr 1
  apply Array.ext_getElem?
  intro i
  rw [Array.getElem?_modify, Array.getElem?_setIfInBounds]
  by_cases e : B = i
  · subst e; simp [hg, hlt]
  · simp [e]

theorem run_store {P : Program} {α : Type} {w : World} {B o : Nat} {C : Array Value} {el : TypeId} {fz : Nat × Nat} {v : Value} {k : Sem α}
    (h : w.heap[B]? = some (.cells C el fz)) (ho : o < C.size) (hf : ¬ (fz.1 ≤ o ∧ o < fz.2)) (hv : cellB v = true) :
    (Sem.store .plain ⟨B, o, none⟩ v k).run P w = k.run P (w.setCell ⟨B, o, none⟩ v) := by
  have hc : w.cell? ⟨B, o, none⟩ = some C[o] := by simp [World.cell?, h, ho]
  have hz : w.frozen? ⟨B, o, none⟩ = false := by
    obtain ⟨a, b⟩ := fz
    simp only [World.frozen?, h]
    simpa using hf
  cases v <;> first | (simp [Sem.run, hc, hz]; done) | (simp [cellB] at hv)

theorem storeCells_run {P : Program} {el : TypeId} {fz : Nat × Nat} {B o : Nat} : ∀ (vs : List Value) (i : Nat) (w : World) (C : Array Value),
    w.heap[B]? = some (.cells C el fz) → o + i + vs.length ≤ C.size → (∀ j, j < C.size → ¬ (fz.1 ≤ j ∧ j < fz.2)) → (∀ v, v ∈ vs → cellB v = true) →
    ∃ C', C'.size = C.size ∧ (∀ j, C'[j]? = if o + i ≤ j ∧ j < o + i + vs.length then vs[j - (o + i)]? else C[j]?) ∧
      (storeCells ⟨B, o, none⟩ vs i).run P w = .ok () (World.putB w B (.cells C' el fz)) := by
  intro vs
  induction vs with
  | nil =>
    intro i w C h _ _ _
    refine ⟨C, rfl, fun j => by simp; intro a b; omega, ?_⟩
    have : World.putB w B (.cells C el fz) = w := by
      have : w.heap.setIfInBounds B (.cells C el fz) = w.heap := by
        apply Array.ext_getElem?
        intro i
        rw [Array.getElem?_setIfInBounds]
        by_cases e : B = i
        · subst e; obtain ⟨hlt, hg⟩ := Array.getElem?_eq_some_iff.1 h; simp [hlt, hg]
        · simp [e]
      simp only [World.putB, this]
    rw [this]; rfl
  | cons v vs ih =>
    intro i w C h hl hf hv
    simp only [List.length_cons] at hl
    have hadd : (⟨B, o, none⟩ : Addr).add i = ⟨B, o + i, none⟩ := by
      unfold Addr.add
      split
      · rename_i e; subst e; rfl
      · rfl
    have hlt := (Array.getElem?_eq_some_iff.1 h).1
    have h' : (World.putB w B (.cells (C.setIfInBounds (o + i) v) el fz)).heap[B]? = some (.cells (C.setIfInBounds (o + i) v) el fz) := by
      rw [putB_get hlt]; simp
    obtain ⟨C', hs, hC, hr⟩ := ih (i + 1) (World.putB w B (.cells (C.setIfInBounds (o + i) v) el fz)) (C.setIfInBounds (o + i) v) h'
      (by simp; omega) (fun j hj => hf j (by simpa using hj)) (fun u hu => hv u (List.mem_cons_of_mem _ hu))
    refine ⟨C', by simpa using hs, fun j => ?_, ?_⟩
    · rw [hC j]
      by_cases e : j = o + i
      · subst e
        rw [if_neg (by omega), if_pos (by simp)]
        rw [Array.getElem?_setIfInBounds_self_of_lt (by omega)]; simp
      · by_cases e2 : o + (i + 1) ≤ j ∧ j < o + (i + 1) + vs.length
        · rw [if_pos e2, if_pos (by simp; omega)]
          have : j - (o + i) = (j - (o + (i + 1))) + 1 := by omega
          rw [this]; simp
        · rw [if_neg e2, if_neg (by simp; omega)]
          rw [Array.getElem?_setIfInBounds_ne (by omega)]
    · show ((store ((⟨B, o, none⟩ : Addr).add i) v).bind fun _ => storeCells ⟨B, o, none⟩ vs (i + 1)).run P w = _
      rw [hadd]
      simp only [store, Sem.bind]
      rw [run_store h (by omega) (hf _ (by omega)) (hv v (List.mem_cons_self ..)), setCell_putB h]
      rw [hr]
      congr 1
      simp only [World.putB, Array.setIfInBounds_setIfInBounds]

/-! ### trimming -/
/-- a block that knows less -/
def Less (k' k : Blk) : Prop := k' = k ∨ ∃ cs co g s sz n, k = .cells cs co g s sz ∧ k' = .cells (cs.take n) co g s sz

theorem Less.refl (k : Blk) : Less k k := .inl rfl
theorem Less.trans {a b c : Blk} (h : Less a b) (h' : Less b c) : Less a c := by
  rcases h with rfl | ⟨cs, co, g, s, sz, n, rfl, rfl⟩
  · exact h'
  · rcases h' with rfl | ⟨cs', co', g', s', sz', m, rfl, e⟩
    · exact .inr ⟨cs, co, g, s, sz, n, rfl, rfl⟩
    · simp only [Blk.cells.injEq] at e
      obtain ⟨rfl, rfl, rfl, rfl, rfl⟩ := e
      exact .inr ⟨cs', _, _, _, _, min n m, rfl, by simp [List.take_take]⟩

theorem cutBlk_less (c : Nat) (k : Blk) : Less (cutBlk c k) k := by
  cases k with
  | cells cs co g s sz => exact .inr ⟨cs, co, g, s, sz, c - co, rfl, rfl⟩
  | _ => exact .inl rfl

theorem cutL_spec (b c : Nat) : ∀ (l : List Nat) (t : Tr Blk) (x : Nat),
    (x = b → (cutL b c l t).get x = t.get x) ∧
    (∀ k', (cutL b c l t).get x = some k' → ∃ k, t.get x = some k ∧ Less k' k) ∧
    (∀ k, t.get x = some k → ∃ k', (cutL b c l t).get x = some k') ∧
    (x ≠ b → x ∈ l → ∀ cs co g s sz, (cutL b c l t).get x = some (.cells cs co g s sz) → ∀ i, i < cs.length → co + i < c) := by
  intro l
  induction l with
  | nil => intro t x; exact ⟨fun _ => rfl, fun k' h => ⟨k', h, .refl _⟩, fun k h => ⟨k, h⟩, fun _ h => by cases h⟩
  | cons y l ih =>
    intro t x
    simp only [cutL]
    by_cases hy : y = b
    · subst hy
      simp only [Nat.beq_refl, cond_true]
      obtain ⟨h1, h2, h3, h4⟩ := ih t x
      refine ⟨h1, h2, h3, fun hx hm => h4 hx ?_⟩
      rcases List.mem_cons.1 hm with e | e
      · exact absurd e hx
      · exact e
    · rw [nbeq hy, cond_false]
      cases hg : t.get y with
      | none =>
        simp only []
        obtain ⟨h1, h2, h3, h4⟩ := ih t x
        refine ⟨h1, h2, h3, fun hx hm cs co g s sz he => ?_⟩
        rcases List.mem_cons.1 hm with e | e
        · subst e
          obtain ⟨k, hk, _⟩ := h2 _ he
          rw [hg] at hk; cases hk
        · exact h4 hx e cs co g s sz he
      | some ky =>
        simp only []
        obtain ⟨h1, h2, h3, h4⟩ := ih (t.set y (cutBlk c ky)) x
        refine ⟨fun e => ?_, fun k' hk' => ?_, fun k hk => ?_, fun hx hm cs co g s sz he => ?_⟩
        · rw [h1 e, Tr.get_set_ne _ _ (by omega)]
        · obtain ⟨k, hk, hl⟩ := h2 k' hk'
          rw [Tr.get_set] at hk
          split at hk
          · rename_i e; subst e
            simp only [Option.some.injEq] at hk; subst hk
            exact ⟨ky, hg, hl.trans (cutBlk_less c ky)⟩
          · exact ⟨k, hk, hl⟩
        · by_cases e : x = y
          · subst e; exact h3 _ (Tr.get_set_same _ _ _)
          · exact h3 k (by rw [Tr.get_set_ne _ _ e]; exact hk)
        · by_cases e : x = y
          · subst e
            obtain ⟨k, hk, hl⟩ := h2 _ he
            rw [Tr.get_set_same] at hk
            simp only [Option.some.injEq] at hk; subst hk
            intro i hi
            have key : ∀ cs co g s sz, Less (.cells cs co g s sz) (cutBlk c ky) → i < cs.length → co + i < c := by
              intro cs co g s sz hl hi
              cases ky with
              | cells cs0 co0 g0 s0 sz0 =>
                simp only [cutBlk] at hl
                rcases hl with e | ⟨cs1, co1, g1, s1, sz1, n, e, e'⟩
                · simp only [Blk.cells.injEq] at e
                  obtain ⟨rfl, rfl, rfl, rfl, rfl⟩ := e
                  simp at hi; omega
                · simp only [Blk.cells.injEq] at e e'
                  obtain ⟨rfl, rfl, rfl, rfl, rfl⟩ := e
                  obtain ⟨rfl, rfl, rfl, rfl, rfl⟩ := e'
                  simp at hi; omega
              | _ =>
                simp only [cutBlk] at hl
                rcases hl with e | ⟨cs1, co1, g1, s1, sz1, n, e, e'⟩ <;> cases e
            exact key cs co g s sz hl hi
          · rcases List.mem_cons.1 hm with e' | e'
            · exact absurd e' e
            · exact h4 hx e' cs co g s sz he

theorem BlkOK.less {ρ : Nat → Loc} {n : Nat} {L : Loc} {w : World} {k k' : Blk} (h : BlkOK ρ n L w k) (l : Less k' k) : BlkOK ρ n L w k' := by
  rcases l with rfl | ⟨cs, co, g, s, sz, m, rfl, rfl⟩
  · exact h
  · obtain ⟨h1, C, el, fz, h2, h3, h4, h5⟩ := h
    refine ⟨fun v hv => h1 v (List.mem_of_mem_take hv), C, el, fz, h2, fun i v hi => ?_, h4, h5⟩
    rw [List.getElem?_take] at hi
    split at hi
    · exact h3 i v hi
    · cases hi

theorem Mates.less {L1 L2 : Loc} {a a' b b' : Blk} (h : Mates L1 L2 a b) (ha : Less a' a) (hb : Less b' b) : Mates L1 L2 a' b' := by
  rcases ha with rfl | ⟨cs, co, g, s, sz, m, rfl, rfl⟩ <;> rcases hb with rfl | ⟨cs', co', g', s', sz', m', rfl, rfl⟩
  · exact h
  · cases a' with
    | cells => exact h
    | _ => exact h.elim
  · cases b' with
    | cells => exact h
    | _ => exact h.elim
  · exact h

/-- what is said of the heap behind a trim for a write through b at coordinate c -/
structure Trimmed (h h1 : H) (b g c : Nat) : Prop where
  size : h1.size = h.size
  same : h1.blks.get b = h.blks.get b
  less : ∀ x k', h1.blks.get x = some k' → ∃ k, h.blks.get x = some k ∧ Less k' k
  there : ∀ x k, h.blks.get x = some k → ∃ k', h1.blks.get x = some k'
  excl : ∀ x, x ≠ b → ∀ cs co s sz, h1.blks.get x = some (.cells cs co g s sz) → ∀ i, i < cs.length → co + i < c

theorem trim_sim {ρ : Nat → Loc} {h : H} {w : World} {b g c : Nat} {cs : List Value} {co k sz : Nat} (s : Sim ρ h w) (hb : h.blks.get b = some (.cells cs co g k sz)) :
    Sim ρ (h.trim b g c) w ∧ Trimmed h (h.trim b g c) b g c := by
  unfold H.trim
  have hgb := s.grp b _ hb
  simp only [GrpOK] at hgb
  cases hgr : h.grps.get g with
  | none =>
    refine ⟨s, rfl, rfl, fun x k' e => ⟨k', e, .refl _⟩, fun x k e => ⟨k, e⟩, fun x hx cs' co' s' sz' e => ?_⟩
    rw [hgr] at hgb
    have hgx := s.grp x _ e
    simp only [GrpOK, hgr] at hgx hgb
    exact absurd (hgx.symm.trans hgb) hx
  | some gr =>
    simp only [hgr] at hgb ⊢
    cases hc : (cond (Nat.beq gr.own b) (Nat.ble gr.ext c) false) with
    | true =>
      simp only [cond_true]
      have hob : gr.own = b ∧ gr.ext ≤ c := by
        cases ho : Nat.beq gr.own b with
        | true => rw [ho] at hc; exact ⟨nbeq_true ho, nble_true hc⟩
        | false => rw [ho] at hc; cases hc
      refine ⟨s, rfl, rfl, fun x k' e => ⟨k', e, .refl _⟩, fun x k e => ⟨k, e⟩, fun x hx cs' co' s' sz' e i hi => ?_⟩
      have hgx := s.grp x _ e
      simp only [GrpOK, hgr] at hgx
      have := hgx.2 (by rw [hob.1]; exact hx) i hi
      omega
    | false =>
      simp only [cond_false]
      have spec := cutL_spec b c gr.mem h.blks
      have hmem : ∀ x cs co s sz, h.blks.get x = some (.cells cs co g s sz) → x ∈ gr.mem := fun x cs co k sz e => by
        have := s.grp x _ e
        simp only [GrpOK, hgr] at this
        exact this.1
      have hexcl : ∀ x, x ≠ b → ∀ cs co s sz, (cutL b c gr.mem h.blks).get x = some (.cells cs co g s sz) → ∀ i, i < cs.length → co + i < c := by
        intro x hx cs' co' s' sz' e i hi
        obtain ⟨k0, hk0, hl⟩ := (spec x).2.1 _ e
        refine (spec x).2.2.2 hx ?_ _ _ _ _ _ e i hi
        rcases hl with e' | ⟨cs1, co1, g1, s1, sz1, n, e1, e2⟩
        · subst e'; exact hmem x _ _ _ _ hk0
        · simp only [Blk.cells.injEq] at e2
          obtain ⟨_, rfl, rfl, rfl, rfl⟩ := e2
          subst e1
          exact hmem x _ _ _ _ hk0
      refine ⟨⟨fun x k e => ?_, fun x k e => ?_, fun x1 x2 k1 k2 e1 e2 hne hB => ?_, fun x k e => ?_, fun g' gr' e => ?_, s.glob, s.big⟩, rfl, (spec b).1 rfl, fun x => (spec x).2.1, fun x => (spec x).2.2.1, hexcl⟩
      · obtain ⟨k0, hk0, _⟩ := (spec x).2.1 _ e
        exact s.lt x k0 hk0
      · obtain ⟨k0, hk0, hl⟩ := (spec x).2.1 _ e
        exact (s.obj x k0 hk0).less hl
      · obtain ⟨k01, hk01, hl1⟩ := (spec x1).2.1 _ e1
        obtain ⟨k02, hk02, hl2⟩ := (spec x2).2.1 _ e2
        exact (s.sep x1 x2 _ _ hk01 hk02 hne hB).less hl1 hl2
      · cases k with
        | cells cs' co' g' s' sz' =>
          simp only [GrpOK, Tr.get_set]
          obtain ⟨k0, hk0, hl⟩ := (spec x).2.1 _ e
          have hk0' : ∃ cs0, h.blks.get x = some (.cells cs0 co' g' s' sz') ∧ cs'.length ≤ cs0.length := by
            rcases hl with e' | ⟨cs1, co1, g1, s1, sz1, n, e1, e2⟩
            · subst e'; exact ⟨cs', hk0, Nat.le_refl _⟩
            · simp only [Blk.cells.injEq] at e2
              obtain ⟨rfl, rfl, rfl, rfl, rfl⟩ := e2
              subst e1
              exact ⟨cs1, hk0, by simp; omega⟩
          obtain ⟨cs0, hk0, hlen⟩ := hk0'
          have hg0 := s.grp x _ hk0
          simp only [GrpOK] at hg0
          by_cases eg : g' = g
          · subst eg
            rw [if_pos rfl]
            exact ⟨hmem x _ _ _ _ hk0, fun hx i hi => hexcl x hx _ _ _ _ e i hi⟩
          · rw [if_neg eg]
            cases hgg : h.grps.get g' with
            | none => rw [hgg] at hg0; exact hg0
            | some gr' => rw [hgg] at hg0; exact ⟨hg0.1, fun hx i hi => hg0.2 hx i (by omega)⟩
        | _ => trivial
      · simp only [Tr.get_set] at e
        split at e
        · rename_i eg; subst eg; exact s.gsz _ _ hgr
        · exact s.gsz g' gr' e


theorem renE_agree {n : Nat} {ρ ρ' : Nat → Loc} (hA : Agree n ρ ρ') (e : MapEntry) (h : ok n e.val = true) : renE ρ' e = renE ρ e := by
  simp only [renE, ren_agree hA _ h]

theorem BlkOK.mono {ρ ρ' : Nat → Loc} {n n' : Nat} {L : Loc} {w w' : World} {k : Blk} (h : BlkOK ρ n L w k) (hA : Agree n ρ ρ') (hn : n ≤ n')
    (hw : ∀ o, w.heap[L.B]? = some o → w'.heap[L.B]? = some o) : BlkOK ρ' n' L w' k := by
  cases k with
  | cells cs co g s sz =>
    obtain ⟨h1, C, el, fz, h2, h3, h4, h5⟩ := h
    refine ⟨fun v hv => ok_mono hn v (h1 v hv), C, el, fz, hw _ h2, fun i v hi => ?_, h4, h5⟩
    rw [ren_agree hA v (h1 v (List.mem_of_getElem? hi))]
    exact h3 i v hi
  | map es clock =>
    obtain ⟨h1, h2⟩ := h
    refine ⟨fun e he => ⟨(h1 e he).1, ok_mono hn _ (h1 e he).2⟩, ?_⟩
    have : es.map (renE ρ') = es.map (renE ρ) := List.map_congr_left fun e he => renE_agree hA e (h1 e he).2
    rw [this]; exact hw _ h2
  | siter s pos => exact ⟨h.1, hw _ h.2⟩
  | miter m since seen stepped =>
    obtain ⟨h1, h2, h3⟩ := h
    refine ⟨h1, fun r hr => by have := h2 r hr; omega, ?_⟩
    have : (m.map fun r => (ρ' r).B) = m.map fun r => (ρ r).B := by
      cases m with
      | none => rfl
      | some r => simp only [Option.map_some, hA r (h2 r rfl)]
    rw [this]; exact hw _ h3

theorem write_run {P : Program} {ρ : Nat → Loc} {h h' : H} {w : World} {b o : Nat} {vs : List Value} (s : Sim ρ h w) (hw : h.write b o vs = some h')
    (hv : ∀ v, v ∈ vs → ok h.size v = true ∧ cellB v = true) :
    ∃ w', (storeCells ⟨(ρ b).B, (ρ b).off + o, none⟩ (vs.map (ren ρ))).run P w = .ok () w' ∧ Sim ρ h' w' ∧ Step ρ h w ρ h' w' ∧ h'.size = h.size := by
  unfold H.write at hw
  split at hw
  · rename_i cs co g k sz hb
    obtain ⟨h1, h2⟩ := cond_some hw
    obtain ⟨h3, h4⟩ := cond_some h2
    have h1 := nble_true h1
    have h3 := nble_true h3
    simp only [Option.some.injEq] at h4
    subst h4
    obtain ⟨s1, tr⟩ := trim_sim (c := co + o) s hb
    generalize H.trim h b g (co + o) = ht at s1 tr ⊢
    have hbt : ht.blks.get b = some (.cells cs co g k sz) := tr.same.trans hb
    obtain ⟨hok, C, el, fz, hC, hcs, hfz, hk⟩ := s1.obj b _ hbt
    have hlt := (Array.getElem?_eq_some_iff.1 hC).1
    have hroom : (ρ b).off + o + 0 + (vs.map (ren ρ)).length ≤ C.size := by
      simp only [List.length_map]
      by_cases hz : o + vs.length = 0
      · omega
      · have hlt' : o + vs.length - 1 < cs.length := by omega
        have := hcs (o + vs.length - 1) _ (List.getElem?_eq_getElem hlt')
        have := (Array.getElem?_eq_some_iff.1 this).1
        omega
    obtain ⟨C', hs', hC', hr⟩ := storeCells_run (P := P) (vs.map (ren ρ)) 0 w C hC hroom hfz.no (fun v hv' => by
      obtain ⟨u, hu, rfl⟩ := List.mem_map.1 hv'
      rw [ren_cellB]; exact (hv u hu).2)
    simp only [List.length_map, Nat.add_zero] at hC'
    refine ⟨_, hr, ⟨fun x kx e => ?_, fun x kx e => ?_, fun x1 x2 k1 k2 e1 e2 hne hB => ?_, fun x kx e => ?_, s1.gsz, s1.glob, s1.big⟩, ⟨Agree.refl _ _, Nat.le_of_eq tr.size.symm, rfl, rfl, rfl, by simp [World.putB], fun B hB ho => ?_, fun r hr' B hB ho => ?_⟩, tr.size⟩
    · simp only [H.put, Tr.get_set] at e
      split at e
      · rename_i ex; subst ex; exact s1.lt _ _ hbt
      · exact s1.lt x kx e
    · simp only [H.put, Tr.get_set] at e
      split at e
      · rename_i ex; subst ex
        simp only [Option.some.injEq] at e; subst e
        refine ⟨fun v hv' => ?_, C', el, fz, by rw [putB_get hlt]; simp, fun i v hi => ?_, by rw [hs']; exact hfz, by rw [hs']; exact hk⟩
        · unfold splice at hv'
          rcases List.mem_append.1 hv' with hm | hm
          · exact hok v (List.mem_of_mem_take hm)
          · rcases List.mem_append.1 hm with hm | hm
            · show ok ht.size v = true
              rw [tr.size]; exact (hv v hm).1
            · exact hok v (List.mem_of_mem_drop hm)
        · rw [splice_get _ _ _ h1] at hi
          rw [hC']
          split at hi
          · rename_i hin
            rw [if_pos (by omega), show (ρ x).off + i - ((ρ x).off + o) = i - o from by omega, List.getElem?_map, hi]; rfl
          · rename_i hin
            rw [if_neg (by omega)]; exact hcs i v hi
      · rename_i ex
        have hx := s1.obj x kx e
        by_cases hB : (ρ x).B = (ρ b).B
        · have hm := s1.sep x b kx _ e hbt ex hB
          cases kx with
          | cells cs' co' g' k' sz' =>
            obtain ⟨rfl, hco⟩ := hm
            obtain ⟨hok', C2, el2, fz2, hC2, hcs2, hfz2, hk2⟩ := hx
            rw [hB, hC] at hC2
            simp only [Option.some.injEq, Obj.cells.injEq] at hC2
            obtain ⟨rfl, rfl, rfl⟩ := hC2
            refine ⟨hok', C', el, fz, by rw [hB, putB_get hlt]; simp, fun i v hi => ?_, by rw [hs']; exact hfz, by rw [hs']; exact hk2⟩
            have hex := tr.excl x ex cs' co' k' sz' e i (List.getElem?_eq_some_iff.1 hi).1
            rw [hC', if_neg (by omega)]
            exact hcs2 i v hi
          | _ => exact hm.elim
        · exact hx.mono (Agree.refl _ _) (Nat.le_refl _) (fun o' ho' => by rw [putB_get hlt, if_neg hB]; exact ho')
    · simp only [H.put, Tr.get_set] at e1 e2
      split at e1 <;> split at e2
      · rename_i a b'; exact absurd (a.trans b'.symm) hne
      · rename_i a _; subst a
        simp only [Option.some.injEq] at e1; subst e1
        have hm := s1.sep _ _ _ _ hbt e2 hne hB
        cases k2 <;> exact hm
      · rename_i _ a; subst a
        simp only [Option.some.injEq] at e2; subst e2
        have hm := s1.sep _ _ _ _ e1 hbt hne hB
        cases k1 <;> exact hm
      · exact s1.sep _ _ _ _ e1 e2 hne hB
    · simp only [H.put, Tr.get_set] at e
      split at e
      · rename_i a; subst a
        simp only [Option.some.injEq] at e; subst e
        have := s1.grp _ _ hbt
        simp only [GrpOK, H.put, splice_length _ _ _ h1] at this ⊢
        exact this
      · exact s1.grp x kx e
    · rw [putB_get hlt, if_neg (fun e => ho b _ h3 hb e.symm)]
    · intro x kx hx e hB'
      simp only [H.put, Tr.get_set] at e
      split at e
      · rename_i a; subst a; exact ho x _ hx hb hB'
      · obtain ⟨k0, hk0, _⟩ := tr.less x kx e
        exact ho x k0 hx hk0 hB'
  · cases hw

/-! ### a new block -/
def ext (ρ : Nat → Loc) (n : Nat) (L : Loc) : Nat → Loc := fun b => if b = n then L else ρ b
theorem ext_agree (ρ : Nat → Loc) (n : Nat) (L : Loc) : Agree n ρ (ext ρ n L) := fun b hb => by simp only [ext]; rw [if_neg (by omega)]
theorem ext_self (ρ : Nat → Loc) (n : Nat) (L : Loc) : ext ρ n L n = L := by simp [ext]

theorem push_get {w : World} {o : Obj} {i : Nat} {o' : Obj} (h : w.heap[i]? = some o') : (w.heap.push o)[i]? = some o' := by
  have := (Array.getElem?_eq_some_iff.1 h).1
  rw [Array.getElem?_push, if_neg (by omega)]; exact h

def Blk.own (n : Nat) : Blk → Prop
  | .cells _ co g _ _ => co = 0 ∧ g = n
  | _ => True

theorem new_sim {ρ : Nat → Loc} {h : H} {w : World} {k : Blk} {o : Obj} {ex : Nat} (s : Sim ρ h w) (hown : k.own h.size)
    (hk : BlkOK (ext ρ h.size ⟨w.heap.size, 0, ex⟩) (h.size + 1) ⟨w.heap.size, 0, ex⟩ { w with heap := w.heap.push o } k) :
    Sim (ext ρ h.size ⟨w.heap.size, 0, ex⟩) (h.new k) { w with heap := w.heap.push o } ∧
    Step ρ h w (ext ρ h.size ⟨w.heap.size, 0, ex⟩) (h.new k) { w with heap := w.heap.push o } := by
  have hold : ∀ x kx, h.blks.get x = some kx → x ≠ h.size ∧ ext ρ h.size ⟨w.heap.size, 0, ex⟩ x = ρ x ∧ (ρ x).B < w.heap.size := fun x kx e => by
    have hl := s.lt x kx e
    refine ⟨by omega, ext_agree _ _ _ x hl, ?_⟩
    have := s.obj x kx e
    cases kx with
    | cells => obtain ⟨_, C, el, fz, h2, _⟩ := this; exact (Array.getElem?_eq_some_iff.1 h2).1
    | map => exact (Array.getElem?_eq_some_iff.1 this.2).1
    | siter => exact (Array.getElem?_eq_some_iff.1 this.2).1
    | miter => exact (Array.getElem?_eq_some_iff.1 this.2.2).1
  refine ⟨⟨fun x kx e => ?_, fun x kx e => ?_, fun x1 x2 k1 k2 e1 e2 hne hB => ?_, fun x kx e => ?_, fun g gr e => ?_, fun g hg => ?_, ?_⟩,
    ⟨ext_agree _ _ _, Nat.le_succ _, rfl, rfl, rfl, by simp, fun B hB _ => by rw [Array.getElem?_push, if_neg (by omega)], fun r hr B hB ho x kx hx e => ?_⟩⟩
  · simp only [H.new, Tr.get_set] at e ⊢
    split at e
    · omega
    · have := s.lt x kx e; omega
  · simp only [H.new, Tr.get_set] at e ⊢
    split at e
    · rename_i a; subst a
      simp only [Option.some.injEq] at e; subst e
      rw [ext_self]; exact hk
    · obtain ⟨_, h2, _⟩ := hold x kx e
      rw [h2]
      exact (s.obj x kx e).mono (ext_agree _ _ _) (Nat.le_succ _) (fun o' ho' => push_get ho')
  · simp only [H.new, Tr.get_set] at e1 e2
    split at e1 <;> split at e2
    · rename_i a b'; exact absurd (a.trans b'.symm) hne
    · rename_i a _
      obtain ⟨_, h2, h3⟩ := hold x2 k2 e2
      subst a
      rw [ext_self, h2] at hB
      simp only at hB; omega
    · rename_i _ a
      obtain ⟨_, h2, h3⟩ := hold x1 k1 e1
      subst a
      rw [ext_self, h2] at hB
      simp only at hB; omega
    · obtain ⟨_, h2, _⟩ := hold x1 k1 e1
      obtain ⟨_, h3, _⟩ := hold x2 k2 e2
      rw [h2, h3] at hB ⊢
      exact s.sep _ _ _ _ e1 e2 hne hB
  · simp only [H.new, Tr.get_set] at e
    split at e
    · rename_i a; subst a
      simp only [Option.some.injEq] at e; subst e
      cases k with
      | cells cs co g s' sz =>
        obtain ⟨rfl, rfl⟩ := hown
        simp only [GrpOK, H.new]
        cases hg : h.grps.get h.size with
        | none => simp
        | some gr => exact absurd (s.gsz _ _ hg) (by omega)
      | _ => trivial
    · exact s.grp x kx e
  · have := s.gsz g gr e
    simp only [H.new]; omega
  · have := s.big
    rw [show ext ρ h.size ⟨w.heap.size, 0, ex⟩ g = ρ g from ext_agree _ _ _ g (by unfold roB at this; omega)]
    exact s.glob g hg
  · have := s.big
    simp only [H.new]; omega
  · simp only [H.new, Tr.get_set] at e
    split at e
    · rename_i a; subst a; rw [ext_self]; simp only; omega
    · obtain ⟨_, h2, _⟩ := hold x kx e
      rw [h2]; exact ho x kx hx e

/-- a block that is put in the place of one of the same kind, in the same world's block -/
theorem Sim.block_lt {ρ : Nat → Loc} {h : H} {w : World} (s : Sim ρ h w) {x : Nat} {kx : Blk} (e : h.blks.get x = some kx) : (ρ x).B < w.heap.size := by
  have := s.obj x kx e
  cases kx with
  | cells => obtain ⟨_, C, el, fz, h2, _⟩ := this; exact (Array.getElem?_eq_some_iff.1 h2).1
  | map => exact (Array.getElem?_eq_some_iff.1 this.2).1
  | siter => exact (Array.getElem?_eq_some_iff.1 this.2).1
  | miter => exact (Array.getElem?_eq_some_iff.1 this.2.2).1

def Blk.isCells : Blk → Bool
  | .cells .. => true
  | _ => false

/-- an object that is no row of cells is set anew -/
theorem put_sim {ρ : Nat → Loc} {h : H} {w : World} {b : Nat} {k k' : Blk} {o : Obj} (s : Sim ρ h w) (hb : h.blks.get b = some k) (hro : roB ≤ b) (hk : k.isCells = false) (hk' : k'.isCells = false)
    (hok : BlkOK ρ h.size (ρ b) (World.putB w (ρ b).B o) k') :
    Sim ρ (h.put b k') (World.putB w (ρ b).B o) ∧ Step ρ h w ρ (h.put b k') (World.putB w (ρ b).B o) := by
  have hlt := s.block_lt hb
  have hne : ∀ x kx, h.blks.get x = some kx → x ≠ b → (ρ x).B ≠ (ρ b).B := fun x kx e hx hB => by
    have := s.sep x b kx k e hb hx hB
    cases kx with
    | cells => cases k with
      | cells => simp [Blk.isCells] at hk
      | _ => exact this.elim
    | _ => exact this.elim
  refine ⟨⟨fun x kx e => ?_, fun x kx e => ?_, fun x1 x2 k1 k2 e1 e2 hn hB => ?_, fun x kx e => ?_, s.gsz, s.glob, s.big⟩,
    ⟨Agree.refl _ _, Nat.le_refl _, rfl, rfl, rfl, by simp [World.putB], fun B hB ho => by rw [putB_get hlt, if_neg (fun e => ho b _ hro hb e.symm)], fun r hr B hB ho x kx hx e => ?_⟩⟩
  · simp only [H.put, Tr.get_set] at e
    split at e
    · rename_i a; subst a; exact s.lt _ _ hb
    · exact s.lt x kx e
  · simp only [H.put, Tr.get_set] at e
    split at e
    · rename_i a; subst a
      simp only [Option.some.injEq] at e; subst e; exact hok
    · rename_i a
      exact (s.obj x kx e).mono (Agree.refl _ _) (Nat.le_refl _) (fun o' ho' => by rw [putB_get hlt, if_neg (hne x kx e a)]; exact ho')
  · simp only [H.put, Tr.get_set] at e1 e2
    split at e1 <;> split at e2
    · rename_i a b'; exact absurd (a.trans b'.symm) hn
    · rename_i a a'; subst a; exact absurd hB.symm (hne x2 k2 e2 a')
    · rename_i a' a; subst a; exact absurd hB (hne x1 k1 e1 a')
    · exact s.sep _ _ _ _ e1 e2 hn hB
  · simp only [H.put, Tr.get_set] at e
    split at e
    · simp only [Option.some.injEq] at e; subst e
      cases k' with
      | cells => simp [Blk.isCells] at hk'
      | _ => trivial
    · exact s.grp x kx e
  · simp only [H.put, Tr.get_set] at e
    split at e
    · rename_i a; subst a; exact ho x _ hx hb
    · exact ho x kx hx e

end
end Go.AX
