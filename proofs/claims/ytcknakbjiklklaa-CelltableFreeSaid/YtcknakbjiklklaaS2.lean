import Derived.Test.YtcknakbjiklklaaS1
/- Where a cell stands in a list that is sorted. -/
namespace Go.Proofs.Ytcknakbjiklklaa.S
open Go Go.RowKit
set_option linter.unusedVariables false
/-- How many cells come ahead. -/
def lowT (l : List TC) (t : TC) : Nat := l.countP fun x => decide (lessT x t)
theorem low_boundary (t : TC) : ∀ (l : List TC) (i : Nat), i ≤ l.length → (∀ j, j < i → lessT (nth l j) t) → (∀ j, i ≤ j → j < l.length → ¬ lessT (nth l j) t) → lowT l t = i
  | [], i, hi, _, _ => by simp at hi; simp [hi, lowT]
  | x :: r, 0, _, _, h2 => by
    unfold lowT
    rw [List.countP_eq_zero]
    intro y hy
    obtain ⟨j, hj, rfl⟩ := List.getElem_of_mem hy
    have := h2 j (Nat.zero_le _) hj
    rw [nth_eq _ _ hj] at this
    simpa using this
  | x :: r, i + 1, hi, h1, h2 => by
    have ha : lessT x t := h1 0 (Nat.succ_pos _)
    have := low_boundary t r i (by simpa using hi) (fun j hj => by simpa [nth_cons_succ] using h1 (j + 1) (by omega)) (fun j h3 h4 => by simpa [nth_cons_succ] using h2 (j + 1) (by omega) (by simpa using h4))
    unfold lowT at this ⊢
    rw [List.countP_cons_of_pos (by simpa using ha), this]
theorem low_le (l : List TC) (t : TC) : lowT l t ≤ l.length := List.countP_le_length
def sameP (a b : TC) : Prop := a.sl = b.sl ∧ a.ki = b.ki
instance (a b : TC) : Decidable (sameP a b) := inferInstanceAs (Decidable (_ ∧ _))
def foundT (l : List TC) (t : TC) : Bool := decide (lowT l t < l.length ∧ sameP (nth l (lowT l t)) t)
theorem lessT_irrefl (a : TC) : ¬ lessT a a := by unfold lessT; omega
theorem low_lt {l : List TC} {t : TC} (k : Nat) (hk : k < l.length) (h : sortedT l) : lessT (nth l k) t ↔ k < lowT l t := by
  obtain ⟨i, hi, h1, h2⟩ : ∃ i, i ≤ l.length ∧ (∀ j, j < i → lessT (nth l j) t) ∧ (∀ j, i ≤ j → j < l.length → ¬ lessT (nth l j) t) := by
    have key : ∀ m, m ≤ l.length → (∃ i, i ≤ m ∧ (∀ j, j < i → lessT (nth l j) t) ∧ (∀ j, i ≤ j → j < m → ¬ lessT (nth l j) t)) := by
      intro m
      induction m with
      | zero => exact fun _ => ⟨0, Nat.le_refl _, fun j hj => absurd hj (Nat.not_lt_zero _), fun j _ hj => absurd hj (Nat.not_lt_zero _)⟩
      | succ m ih =>
        intro hm
        obtain ⟨i, hi, a, b⟩ := ih (by omega)
        by_cases hlt : lessT (nth l m) t
        · refine ⟨m + 1, Nat.le_refl _, fun j hj => ?_, fun j h1 h2 => by omega⟩
          rcases Nat.lt_or_ge j m with e | e
          · exact lessT_trans (h j m e (by omega)) hlt
          · obtain rfl : j = m := by omega
            exact hlt
        · refine ⟨i, by omega, a, fun j h1 h2 => ?_⟩
          rcases Nat.lt_or_ge j m with e | e
          · exact b j h1 e
          · obtain rfl : j = m := by omega
            exact hlt
    exact key _ (Nat.le_refl _)
  rw [low_boundary t l i hi h1 h2]
  constructor
  · intro hk2
    rcases Nat.lt_or_ge k i with e | e
    · exact e
    · exact absurd hk2 (h2 k e hk)
  · exact h1 k
end Go.Proofs.Ytcknakbjiklklaa.S
