import Derived.Test.YtlifpafnkagofaaS13
/- How the reference lays the list behind an advertisement. -/
namespace Go.Proofs.Ytlifpafnkagofaa.S
open Go Go.RowKit
set_option linter.unusedVariables false
def neF (t : Int) (l : List Nb) : List Nb := l.filter fun x => x.nd != t
theorem neF_snoc (t : Int) (l : List Nb) (k : Nat) (h : k < l.length) : neF t (l.take (k + 1)) = neF t (l.take k) ++ if ((nth l k).nd != t) = true then [nth l k] else [] := by
  unfold neF
  rw [List.take_succ_eq_append_getElem h, List.filter_append, ← nth_eq l k h]
  cases hq : ((nth l k).nd != t) <;> simp [hq]
theorem neF_all {t : Int} {l : List Nb} (h : ∀ j, j < l.length → (nth l j).nd ≠ t) : neF t l = l := by
  unfold neF
  rw [List.filter_eq_self]
  intro x hx
  obtain ⟨j, hj, rfl⟩ := List.getElem_of_mem hx
  have := h j hj
  rw [nth_eq l j hj] at this
  simpa using this
theorem nth_drop {l : List Nb} (a j : Nat) : nth (l.drop a) j = nth l (a + j) := by simp [nth, List.getElem?_drop]
/-- Both ways of laying the list agree. -/
theorem hear_same {l : List Nb} {nd : Int} (hs : sortedN l) (x : Nb) : l.take (lowS l nd) ++ x :: neF nd (l.drop (lowS l nd)) = if foundS l nd = true then l.set (lowS l nd) x else l.take (lowS l nd) ++ x :: l.drop (lowS l nd) := by
  have hle := low_le l nd
  cases hf : foundS l nd with
  | true =>
    rw [if_pos rfl]
    have hlt : lowS l nd < l.length := by unfold foundS at hf; exact (of_decide_eq_true hf).1
    have he : (nth l (lowS l nd)).nd = nd := by unfold foundS at hf; exact (of_decide_eq_true hf).2
    have e : neF nd (l.drop (lowS l nd)) = l.drop (lowS l nd + 1) := by
      rw [drop_at l _ hlt]
      have : neF nd (nth l (lowS l nd) :: l.drop (lowS l nd + 1)) = neF nd (l.drop (lowS l nd + 1)) := by
        unfold neF
        rw [List.filter_cons_of_neg (by simp [he])]
      rw [this]
      apply neF_all
      intro j hj
      rw [List.length_drop] at hj
      rw [nth_drop]
      have := hs (lowS l nd) (lowS l nd + 1 + j) (by omega) (by omega)
      omega
    rw [e, List.set_eq_take_append_cons_drop, if_pos hlt]
  | false =>
    rw [if_neg (by decide)]
    rw [neF_all]
    intro j hj
    rw [List.length_drop] at hj
    rw [nth_drop]
    intro he
    have h1 : ¬ (nth l (lowS l nd + j)).nd < nd := by rw [low_lt _ (by omega) hs]; omega
    by_cases h0 : j = 0
    · subst h0
      unfold foundS at hf
      rw [decide_eq_false_iff_not] at hf
      exact hf ⟨by omega, by simpa using he⟩
    · have h2 := hs (lowS l nd) (lowS l nd + j) (by omega) (by omega)
      have h3 : ¬ (nth l (lowS l nd)).nd < nd := by rw [low_lt _ (by omega) hs]; omega
      omega
end Go.Proofs.Ytlifpafnkagofaa.S
