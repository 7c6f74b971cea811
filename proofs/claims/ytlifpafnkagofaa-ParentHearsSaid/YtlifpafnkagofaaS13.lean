import Derived.Test.YtlifpafnkagofaaS9
import Derived.Test.YtlifpafnkagofaaS11
/- The list behind an advertisement, and behind an attempt. -/
namespace Go.Proofs.Ytlifpafnkagofaa.S
open Go Go.RowKit
set_option linter.unusedVariables false
def hearL (l : List Nb) (nd ep ra sl : Int) : List Nb :=
  if foundS l nd = true then l.set (lowS l nd) ⟨nd, ep, ra, sl, (nth l (lowS l nd)).c⟩ else l.take (lowS l nd) ++ ⟨nd, ep, ra, sl, ⟨0, 0⟩⟩ :: l.drop (lowS l nd)
def hearS (l : List Nb) (nd ep ra sl : Int) : List Nb × Int :=
  if checkL l ≠ 0 then ([], 1)
  else if heardS nd ep ra sl = false then ([], 2)
  else if foundS l nd = true ∧ (nth l (lowS l nd)).sl > sl then ([], 15)
  else (hearL l nd ep ra sl, 0)
def halfC (c : Ct) : Ct := if c.at_ = 255 then ⟨c.at_ / 2, c.ak / 2⟩ else c
def countC (c : Ct) (ack : Bool) : Ct := ⟨(halfC c).at_ + 1, (halfC c).ak + if ack = true then 1 else 0⟩
def countL (l : List Nb) (nd : Int) (ack : Bool) : List Nb := l.set (lowS l nd) { nth l (lowS l nd) with c := countC (nth l (lowS l nd)).c ack }
def countS (l : List Nb) (nd : Int) (ack : Bool) : List Nb × Int :=
  if checkL l ≠ 0 then ([], 1) else if foundS l nd = false then ([], 7) else (countL l nd ack, 0)
theorem low_lt {l : List Nb} {t : Int} (k : Nat) (hk : k < l.length) (h : sortedN l) : (nth l k).nd < t ↔ k < lowS l t := by
  obtain ⟨i, hi, h1, h2⟩ : ∃ i, i ≤ l.length ∧ (∀ j, j < i → (nth l j).nd < t) ∧ (∀ j, i ≤ j → j < l.length → ¬ (nth l j).nd < t) := by
    have key : ∀ m, m ≤ l.length → (∃ i, i ≤ m ∧ (∀ j, j < i → (nth l j).nd < t) ∧ (∀ j, i ≤ j → j < m → ¬ (nth l j).nd < t)) := by
      intro m
      induction m with
      | zero => exact fun _ => ⟨0, Nat.le_refl _, fun j hj => absurd hj (Nat.not_lt_zero _), fun j _ hj => absurd hj (Nat.not_lt_zero _)⟩
      | succ m ih =>
        intro hm
        obtain ⟨i, hi, a, b⟩ := ih (by omega)
        by_cases hlt : (nth l m).nd < t
        · refine ⟨m + 1, Nat.le_refl _, fun j hj => ?_, fun j h1 h2 => by omega⟩
          rcases Nat.lt_or_ge j m with e | e
          · have := h j m e (by omega); omega
          · obtain rfl : j = m := by omega
            exact hlt
        · refine ⟨i, by omega, a, fun j h1 h2 => ?_⟩
          rcases Nat.lt_or_ge j m with e | e
          · exact b j h1 e
          · obtain rfl : j = m := by omega
            exact hlt
    exact key _ (Nat.le_refl _)
  rw [low_boundary t l i hi h1 h2]
  constructor
  · intro hk2
    rcases Nat.lt_or_ge k i with e | e
    · exact e
    · exact absurd hk2 (h2 k e hk)
  · exact h1 k
end Go.Proofs.Ytlifpafnkagofaa.S
