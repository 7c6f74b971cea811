import Derived.Test.YtcknakbjiklklaaS4
/- Masks; the cell in force; the places that fit. -/
namespace Go.Proofs.Ytcknakbjiklklaa.S
open Go Go.RowKit
set_option linter.unusedVariables false
def badM (n : Int) : Bool := decide (n < 0) || decide (n ≥ 65536)
def maskedS (f : List Int) (len : Int) : Bool := decide ((f.length : Int) = len) && !f.any badM
def usedS (l : List TC) (slot : Int) : Bool := l.any fun c => c.sl == slot
/-- How many cells have a smaller slot. -/
def lowI (l : List TC) (t : Int) : Nat := l.countP fun x => decide (x.sl < t)
def foundI (l : List TC) (t : Int) : Bool := decide (lowI l t < l.length ∧ (nth l (lowI l t)).sl = t)
theorem lowI_le (l : List TC) (t : Int) : lowI l t ≤ l.length := List.countP_le_length
theorem lowI_boundary (t : Int) : ∀ (l : List TC) (i : Nat), i ≤ l.length → (∀ j, j < i → (nth l j).sl < t) → (∀ j, i ≤ j → j < l.length → ¬ (nth l j).sl < t) → lowI l t = i
  | [], i, hi, _, _ => by simp at hi; simp [hi, lowI]
  | x :: r, 0, _, _, h2 => by
    unfold lowI
    rw [List.countP_eq_zero]
    intro y hy
    obtain ⟨j, hj, rfl⟩ := List.getElem_of_mem hy
    have := h2 j (Nat.zero_le _) hj
    rw [nth_eq _ _ hj] at this
    simpa using this
  | x :: r, i + 1, hi, h1, h2 => by
    have ha : x.sl < t := h1 0 (Nat.succ_pos _)
    have := lowI_boundary t r i (by simpa using hi) (fun j hj => by simpa [nth_cons_succ] using h1 (j + 1) (by omega)) (fun j h3 h4 => by simpa [nth_cons_succ] using h2 (j + 1) (by omega) (by simpa using h4))
    unfold lowI at this ⊢
    rw [List.countP_cons_of_pos (by simpa using ha), this]
theorem sorted_sl {l : List TC} (h : sortedT l) : ∀ i j, i < j → j < l.length → (nth l i).sl ≤ (nth l j).sl := fun i j h1 h2 => by
  have := h i j h1 h2
  unfold lessT at this
  omega
/-- The cell in force in a slot. -/
def atS (n len : Int) (l : List TC) (slot : Int) : TC × Bool :=
  if checkT n len l ≠ 0 ∨ slot < 0 then (zT, false) else if foundI l (slot % len) = true then (nth l (lowI l (slot % len)), true) else (zT, false)
end Go.Proofs.Ytcknakbjiklklaa.S
