import Derived.WalkKit
/- The specifications of seat Celltable: plain functions on numbers and lists. -/
namespace Go.Proofs.Ytcknakbjiklklaa.S
open Go Go.RowKit
set_option linter.unusedVariables false
def win (n l h : Int) : Bool := decide (l ≤ n ∧ n ≤ h)
theorem win_iff (n l h : Int) : win n l h = true ↔ l ≤ n ∧ n ≤ h := by simp [win]
theorem win_not (n l h : Int) : win n l h = false ↔ ¬ (l ≤ n ∧ n ≤ h) := by simp [win]
/-- A cell of a table. -/
structure TC where
  sl : Int
  off : Int
  ki : Int
  se : Bool
  pe : Int
  fl : Int
  deriving DecidableEq
def zT : TC := ⟨0, 0, 0, false, 0, 0⟩
instance : Inhabited TC := ⟨zT⟩
/-- Element k (a name of its own: simp leaves it). -/
def nth {α : Type} [Inhabited α] (l : List α) (k : Nat) : α := l.getD k default
theorem nth_eq {α : Type} [Inhabited α] (l : List α) (k : Nat) (h : k < l.length) : nth l k = l[k] := by simp [nth, h]
theorem drop_at {α : Type} [Inhabited α] : ∀ (l : List α) (k : Nat), k < l.length → l.drop k = nth l k :: l.drop (k + 1)
  | [], k, h => by simp at h
  | x :: r, 0, _ => rfl
  | x :: r, k + 1, h => by simpa [nth] using drop_at r k (by simpa using h)
theorem nth_cons_succ {α : Type} [Inhabited α] (x : α) (r : List α) (k : Nat) : nth (x :: r) (k + 1) = nth r k := by simp [nth]
/-- The error of a cell of a node. -/
def formS (c : TC) (self len : Int) : Int :=
  if c.ki ≠ 3 ∧ c.ki ≠ 1 ∧ c.ki ≠ 2 then 1
  else if (c.ki ≠ 1 ∧ c.fl ≠ -1) ∨ (c.ki = 3 ∧ (c.pe ≠ -1 ∨ c.se = true)) then 1
  else if c.sl < 0 ∨ c.sl ≥ len ∨ c.off < 0 ∨ c.off ≥ 16 ∨ (c.ki ≠ 3 ∧ (¬ (0 ≤ c.pe ∧ c.pe ≤ 31) ∨ c.pe = self)) ∨ (c.ki = 1 ∧ c.fl < 0) then 2
  else 0
def cmpS (a b : Int) : Int := if a < b then -1 else if b < a then 1 else 0
def orS (x y : Int) : Int := if x ≠ 0 then x else y
def cmpT (a b : TC) : Int := orS (cmpS a.sl b.sl) (cmpS a.ki b.ki)
theorem cmpS_neg (a b : Int) : cmpS a b < 0 ↔ a < b := by unfold cmpS; repeat' split <;> omega
theorem cmpS_zero (a b : Int) : cmpS a b = 0 ↔ a = b := by unfold cmpS; repeat' split <;> omega
def lessT (a b : TC) : Prop := a.sl < b.sl ∨ a.sl = b.sl ∧ a.ki < b.ki
instance (a b : TC) : Decidable (lessT a b) := inferInstanceAs (Decidable (_ ∨ _))
theorem cmpT_neg (a b : TC) : cmpT a b < 0 ↔ lessT a b := by unfold cmpT orS cmpS lessT; repeat' split <;> omega
theorem cmpT_zero (a b : TC) : cmpT a b = 0 ↔ a.sl = b.sl ∧ a.ki = b.ki := by unfold cmpT orS cmpS; repeat' split <;> omega
def checkF (self len : Int) : Option TC → List TC → Int
  | _, [] => 0
  | p, x :: r => if formS x self len ≠ 0 then formS x self len else match p with
    | none => checkF self len (some x) r
    | some q => if cmpT q x ≥ 0 then 5 else checkF self len (some x) r
/-- The first error of a table. -/
def checkT (n len : Int) (l : List TC) : Int :=
  if ¬ (0 ≤ n ∧ n ≤ 31) ∨ len < 1 ∨ len > 512 then 2 else if l.length > 512 then 8 else checkF n len none l
def prevOf (l : List TC) (k : Nat) : Option TC := if k = 0 then none else some (nth l (k - 1))
theorem prevOf_succ (l : List TC) (k : Nat) : prevOf l (k + 1) = some (nth l k) := by simp [prevOf]
theorem checkF_bad {n len : Int} {l : List TC} {k : Nat} (h : k < l.length) (hb : formS (nth l k) n len ≠ 0) : checkF n len (prevOf l k) (l.drop k) = formS (nth l k) n len := by
  rw [drop_at l k h]; simp only [checkF]; rw [if_pos hb]
theorem checkF_first {n len : Int} {l : List TC} (h : 0 < l.length) (hb : formS (nth l 0) n len = 0) : checkF n len (prevOf l 0) (l.drop 0) = checkF n len (prevOf l 1) (l.drop 1) := by
  rw [drop_at l 0 h, prevOf_succ]
  simp only [checkF]
  rw [if_neg (by rw [hb]; decide), show prevOf l 0 = none from rfl]
theorem checkF_order {n len : Int} {l : List TC} {k : Nat} (h : k < l.length) (hk : 0 < k) (hb : formS (nth l k) n len = 0) (ho : cmpT (nth l (k - 1)) (nth l k) ≥ 0) : checkF n len (prevOf l k) (l.drop k) = 5 := by
  obtain ⟨j, rfl⟩ : ∃ j, k = j + 1 := ⟨k - 1, by omega⟩
  rw [drop_at l (j + 1) h, prevOf_succ]
  rw [Nat.add_sub_cancel] at ho
  simp only [checkF]
  rw [if_neg (by rw [hb]; decide), if_pos ho]
theorem checkF_next {n len : Int} {l : List TC} {k : Nat} (h : k < l.length) (hk : 0 < k) (hb : formS (nth l k) n len = 0) (ho : ¬ cmpT (nth l (k - 1)) (nth l k) ≥ 0) : checkF n len (prevOf l k) (l.drop k) = checkF n len (prevOf l (k + 1)) (l.drop (k + 1)) := by
  obtain ⟨j, rfl⟩ : ∃ j, k = j + 1 := ⟨k - 1, by omega⟩
  rw [drop_at l (j + 1) h, prevOf_succ, prevOf_succ]
  rw [Nat.add_sub_cancel] at ho
  simp only [checkF]
  rw [if_neg (by rw [hb]; decide), if_neg ho]
theorem checkF_end (n len : Int) (l : List TC) : checkF n len (prevOf l l.length) (l.drop l.length) = 0 := by simp [checkF]
def sortedT (l : List TC) : Prop := ∀ i j, i < j → j < l.length → lessT (nth l i) (nth l j)
theorem lessT_trans {a b c : TC} (h : lessT a b) (k : lessT b c) : lessT a c := by unfold lessT at *; omega
theorem checkF_sorted {n len : Int} : ∀ (l : List TC) (p : Option TC), checkF n len p l = 0 → (∀ k, k < l.length → formS (nth l k) n len = 0) ∧ sortedT l ∧ (∀ q, p = some q → ∀ k, k < l.length → lessT q (nth l k))
  | [], p, _ => ⟨fun k h => by simp at h, fun i j _ h => by simp at h, fun q _ k h => by simp at h⟩
  | x :: r, p, h => by
    have hok : formS x n len = 0 := by
      by_cases hx : formS x n len = 0
      · exact hx
      · simp only [checkF] at h
        rw [if_pos hx] at h
        exact h
    have h1 : checkF n len (some x) r = 0 ∧ (∀ q, p = some q → lessT q x) := by
      cases p with
      | none => simp [checkF, hok] at h; exact ⟨h, fun q hq => by cases hq⟩
      | some q =>
        simp only [checkF, hok] at h
        rw [if_neg (by simp)] at h
        by_cases hq : cmpT q x ≥ 0
        · rw [if_pos hq] at h; omega
        · rw [if_neg hq] at h; exact ⟨h, fun q' hq' => by injection hq' with hq'; subst hq'; exact (cmpT_neg _ _).1 (by omega)⟩
    obtain ⟨a, b, c⟩ := checkF_sorted r (some x) h1.1
    refine ⟨fun k hk => ?_, fun i j hij hj => ?_, fun q hq k hk => ?_⟩
    · cases k with
      | zero => exact hok
      | succ k => rw [nth_cons_succ]; exact a k (by simpa using hk)
    · cases j with
      | zero => omega
      | succ j =>
        rw [nth_cons_succ]
        cases i with
        | zero => exact c x rfl j (by simpa using hj)
        | succ i => rw [nth_cons_succ]; exact b i j (by omega) (by simpa using hj)
    · cases k with
      | zero => exact h1.2 q hq
      | succ k => rw [nth_cons_succ]; exact lessT_trans (h1.2 q hq) (c x rfl k (by simpa using hk))
theorem checkT_ok {n len : Int} {l : List TC} (h : checkT n len l = 0) : (0 ≤ n ∧ n ≤ 31) ∧ (1 ≤ len ∧ len ≤ 512) ∧ l.length ≤ 512 ∧ (∀ k, k < l.length → formS (nth l k) n len = 0) ∧ sortedT l := by
  unfold checkT at h
  by_cases h1 : ¬ (0 ≤ n ∧ n ≤ 31) ∨ len < 1 ∨ len > 512
  · rw [if_pos h1] at h; omega
  · rw [if_neg h1] at h
    by_cases h2 : l.length > 512
    · rw [if_pos h2] at h; omega
    · rw [if_neg h2] at h
      obtain ⟨a, b, _⟩ := checkF_sorted l none h
      exact ⟨by omega, by omega, by omega, a, b⟩
end Go.Proofs.Ytcknakbjiklklaa.S
