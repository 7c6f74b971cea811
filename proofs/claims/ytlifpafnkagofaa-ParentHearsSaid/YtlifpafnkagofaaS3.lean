import Derived.Test.YtlifpafnkagofaaS2
/- Where a neighbour stands in a list that is sorted. -/
namespace Go.Proofs.Ytlifpafnkagofaa.S
open Go Go.RowKit
set_option linter.unusedVariables false
/-- How many neighbours have a smaller number. -/
def lowS (l : List Nb) (t : Int) : Nat := l.countP fun x => decide (x.nd < t)
def sortedN (l : List Nb) : Prop := ∀ i j, i < j → j < l.length → (nth l i).nd < (nth l j).nd
theorem nth_cons_succ {α : Type} [Inhabited α] (x : α) (r : List α) (k : Nat) : nth (x :: r) (k + 1) = nth r k := by simp [nth]
theorem low_boundary (t : Int) : ∀ (l : List Nb) (i : Nat), i ≤ l.length → (∀ j, j < i → (nth l j).nd < t) → (∀ j, i ≤ j → j < l.length → ¬ (nth l j).nd < t) → lowS l t = i
  | [], i, hi, _, _ => by simp at hi; simp [hi, lowS]
  | x :: r, 0, _, _, h2 => by
    unfold lowS
    rw [List.countP_eq_zero]
    intro y hy
    obtain ⟨j, hj, rfl⟩ := List.getElem_of_mem hy
    have := h2 j (Nat.zero_le _) hj
    rw [nth_eq _ _ hj] at this
    simpa using this
  | x :: r, i + 1, hi, h1, h2 => by
    have ha : x.nd < t := h1 0 (Nat.succ_pos _)
    have := low_boundary t r i (by simpa using hi) (fun j hj => by simpa [nth_cons_succ] using h1 (j + 1) (by omega)) (fun j h3 h4 => by simpa [nth_cons_succ] using h2 (j + 1) (by omega) (by simpa using h4))
    unfold lowS at this ⊢
    rw [List.countP_cons_of_pos (by simpa using ha), this]
theorem low_le (l : List Nb) (t : Int) : lowS l t ≤ l.length := List.countP_le_length
def foundS (l : List Nb) (t : Int) : Bool := decide (lowS l t < l.length ∧ (nth l (lowS l t)).nd = t)
theorem checkF_sorted : ∀ (l : List Nb) (p : Option Int), checkF p l = 0 → (∀ k, k < l.length → okN (nth l k) = true) ∧ sortedN l ∧ (∀ q, p = some q → ∀ k, k < l.length → q < (nth l k).nd)
  | [], p, _ => ⟨fun k h => by simp at h, fun i j _ h => by simp at h, fun q _ k h => by simp at h⟩
  | x :: r, p, h => by
    have hok : okN x = true := by
      cases hx : okN x with
      | true => rfl
      | false => simp [checkF, hx] at h
    have h1 : checkF (some x.nd) r = 0 ∧ (∀ q, p = some q → q < x.nd) := by
      cases p with
      | none => simp [checkF, hok] at h; exact ⟨h, fun q hq => by cases hq⟩
      | some q =>
        simp only [checkF, hok] at h
        rw [if_neg (by simp)] at h
        by_cases hq : q ≥ x.nd
        · rw [if_pos hq] at h; omega
        · rw [if_neg hq] at h; exact ⟨h, fun q' hq' => by injection hq' with hq'; omega⟩
    obtain ⟨a, b, c⟩ := checkF_sorted r (some x.nd) h1.1
    refine ⟨fun k hk => ?_, fun i j hij hj => ?_, fun q hq k hk => ?_⟩
    · cases k with
      | zero => exact hok
      | succ k => rw [nth_cons_succ]; exact a k (by simpa using hk)
    · cases j with
      | zero => omega
      | succ j =>
        rw [nth_cons_succ]
        cases i with
        | zero => exact c x.nd rfl j (by simpa using hj)
        | succ i => rw [nth_cons_succ]; exact b i j (by omega) (by simpa using hj)
    · cases k with
      | zero => exact h1.2 q hq
      | succ k => rw [nth_cons_succ]; have := c x.nd rfl k (by simpa using hk); have := h1.2 q hq; omega
theorem checkL_ok {l : List Nb} (h : checkL l = 0) : l.length ≤ 32 ∧ (∀ k, k < l.length → okN (nth l k) = true) ∧ sortedN l := by
  unfold checkL at h
  by_cases h1 : l.length > 32
  · rw [if_pos h1] at h; omega
  · rw [if_neg h1] at h
    obtain ⟨a, b, _⟩ := checkF_sorted l none h
    exact ⟨by omega, a, b⟩
theorem okN_iff (x : Nb) : okN x = true ↔ (0 ≤ x.nd ∧ x.nd ≤ 31) ∧ (1 ≤ x.ep ∧ x.ep ≤ 65535) ∧ (0 ≤ x.ra ∧ x.ra ≤ 65534) ∧ (0 ≤ x.sl ∧ x.sl ≤ 1099511627776) ∧ (0 ≤ x.c.at_ ∧ x.c.at_ ≤ 255) ∧ (0 ≤ x.c.ak ∧ x.c.ak ≤ x.c.at_) := by
  unfold okN heardS
  simp only [Bool.and_eq_true, win_iff]
  omega
end Go.Proofs.Ytlifpafnkagofaa.S
