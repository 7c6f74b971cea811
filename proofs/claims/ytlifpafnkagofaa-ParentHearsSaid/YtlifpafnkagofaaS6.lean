import Derived.Test.YtlifpafnkagofaaS5
/- The best neighbour's index; Index in a sorted list. -/
namespace Go.Proofs.Ytlifpafnkagofaa.S
open Go Go.RowKit
set_option linter.unusedVariables false
def bestP (r : Rk) (l : List Nb) : Int × Bool := if checkL l = 0 ∧ checkR r = 0 then ((bestS r l).1.ix, (bestS r l).2) else (0, false)
def bestQ (r : Rk) (l : List Nb) : Int × Bool := if checkL l = 0 then ((bestS r l).1.ix, (bestS r l).2) else (0, false)
theorem linksF_none {r : Rk} (h : checkR r ≠ 0) : ∀ (l : List Nb) (i : Nat), linksF r i l = []
  | [], i => rfl
  | x :: rest, i => by
    have : candB r x = false := by unfold candB feasR; simp [h]
    simp only [linksF]
    rw [if_neg (by rw [this]; decide)]
    exact linksF_none h rest (i + 1)
theorem bestQ_P (r : Rk) (l : List Nb) : bestQ r l = bestP r l := by
  unfold bestQ bestP
  by_cases h1 : checkL l = 0
  · by_cases h2 : checkR r = 0
    · rw [if_pos h1, if_pos ⟨h1, h2⟩]
    · rw [if_pos h1, if_neg (by simp [h2])]
      unfold bestS
      rw [linksF_none h2]
      rfl
  · rw [if_neg h1, if_neg (by simp [h1])]
theorem linksF_mem {r : Rk} (l : List Nb) : ∀ (m : List Nb) (i : Nat), m = l.drop i → ∀ x ∈ linksF r i m, ∃ j, i ≤ j ∧ j < l.length ∧ x = mkL (nth l j) j ∧ candB r (nth l j) = true
  | [], i, _, x, hx => by simp [linksF] at hx
  | y :: rest, i, hm, x, hx => by
    have hi : i < l.length := by
      rcases Nat.lt_or_ge i l.length with h | h
      · exact h
      · rw [List.drop_of_length_le h] at hm; cases hm
    have hd := drop_at l i hi
    rw [← hm] at hd
    injection hd with h1 h2
    have hr : ∀ x ∈ linksF r (i + 1) rest, ∃ j, i ≤ j ∧ j < l.length ∧ x = mkL (nth l j) j ∧ candB r (nth l j) = true := fun x hx => by
      obtain ⟨j, a, b⟩ := linksF_mem l rest (i + 1) h2 x hx
      exact ⟨j, by omega, b⟩
    simp only [linksF] at hx
    by_cases hc : candB r y = true
    · rw [if_pos hc] at hx
      rcases List.mem_cons.1 hx with rfl | hx
      · exact ⟨i, Nat.le_refl _, hi, by rw [← h1], by rw [← h1]; exact hc⟩
      · exact hr x hx
    · rw [if_neg hc] at hx; exact hr x hx
theorem minF_mem : ∀ (l : List Lk) (m : Lk), minF m l = m ∨ minF m l ∈ l
  | [], m => .inl rfl
  | x :: r, m => by
    simp only [minF]
    rcases minF_mem r (if betS x m < 0 then x else m) with h | h
    · rw [h]
      by_cases hb : betS x m < 0
      · rw [if_pos hb]; exact .inr (by simp)
      · rw [if_neg hb]; exact .inl rfl
    · exact .inr (List.mem_cons_of_mem _ h)
theorem best_ix {r : Rk} {l : List Nb} (h : (bestS r l).2 = true) : ∃ j, j < l.length ∧ (bestS r l).1 = mkL (nth l j) j ∧ candB r (nth l j) = true := by
  unfold bestS at *
  cases hk : linksF r 0 l with
  | nil => rw [hk] at h; cases h
  | cons x rest =>
    have hm : ∀ y ∈ x :: rest, ∃ j, 0 ≤ j ∧ j < l.length ∧ y = mkL (nth l j) j ∧ candB r (nth l j) = true := by
      rw [← hk]; exact linksF_mem l l 0 rfl
    have : minF x rest ∈ x :: rest := by
      rcases minF_mem rest x with h | h
      · rw [h]; simp
      · exact List.mem_cons_of_mem _ h
    obtain ⟨j, _, a⟩ := hm _ this
    exact ⟨j, a⟩
theorem bestS_no {r : Rk} {l : List Nb} (h : (bestS r l).2 = false) : (bestS r l).1 = zL := by
  unfold bestS at *
  cases hk : linksF r 0 l with
  | nil => rfl
  | cons x rest => rw [hk] at h; cases h
theorem pick_snoc (acc : List Lk) (x : Lk) : pickL (acc ++ [x]) = match pickL acc with
    | (_, false) => (x, true)
    | (m, true) => (if betS x m < 0 then x else m, true) := by
  cases acc with
  | nil => rfl
  | cons y rest =>
    have hs : ∀ (l : List Lk) (m : Lk), minF m (l ++ [x]) = if betS x (minF m l) < 0 then x else minF m l := by
      intro l
      induction l with
      | nil => intro m; rfl
      | cons z l ih => intro m; simp only [List.cons_append, minF]; exact ih _
    show pickL (y :: (rest ++ [x])) = _
    simp only [pickL]
    rw [hs]
/-- Behind it in a sorted list, only a newer epoch or a shorter path is better. -/
theorem bet_later {x m : Lk} (h : m.nb.nd < x.nb.nd) : betS x m < 0 ↔ (x.nb.ep > m.nb.ep ∨ x.nb.ep = m.nb.ep ∧ x.nb.ra + x.co < m.nb.ra + m.co) := by
  unfold betS orS cmpS
  repeat' split
  all_goals omega
def indexS (l : List Nb) (t : Int) : Int := if foundS l t = true then (lowS l t : Nat) else -1
theorem index_at {l : List Nb} {t : Int} (hs : sortedN l) {k : Nat} (hk : k < l.length) (he : (nth l k).nd = t) : lowS l t = k ∧ foundS l t = true := by
  have hl : lowS l t = k := low_boundary t l k (by omega) (fun j hj => by have := hs j k hj hk; omega) (fun j h1 h2 => by
    rcases Nat.lt_or_ge k j with h | h
    · have := hs k j h h2; omega
    · obtain rfl : j = k := by omega
      omega)
  exact ⟨hl, by unfold foundS; rw [hl]; simp [hk, he]⟩
theorem index_none {l : List Nb} {t : Int} (h : ∀ j, j < l.length → (nth l j).nd ≠ t) : foundS l t = false := by
  unfold foundS
  rw [decide_eq_false_iff_not]
  rintro ⟨h1, h2⟩
  exact h _ h1 h2
end Go.Proofs.Ytlifpafnkagofaa.S
