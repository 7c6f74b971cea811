import Derived.Test.YtlifpafnkagofaaS16
import Derived.Test.YtlifpafnkagofaaF29
/- What ParentHears says of the list behind an advertisement. -/
namespace Go.Proofs.Ytlifpafnkagofaa.S
open Go Go.RowKit Go.Proofs.Ytlifpafnkagofaa.F
set_option linter.unusedVariables false
theorem at_some {l : List Nb} {nd : Int} (hs : sortedN l) {k : Nat} (hk : k < l.length) (he : (nth l k).nd = nd) : atS l nd = nth l k ∧ hasN l nd = true := by
  unfold atS hasN
  rcases idxF_spec (isN nd) l 0 with ⟨e, hn⟩ | ⟨j, hj, e, hp, _⟩
  · have := hn _ (List.getElem_mem hk)
    rw [← nth_eq l k hk] at this
    simp [isN, he] at this
  · have hp' : (nth l j).nd = nd := by simpa [isN] using hp
    have hjk : j = k := by
      rcases Nat.lt_trichotomy j k with h | h | h
      · have := hs j k h hk; omega
      · exact h
      · have := hs k j h hj; omega
    subst hjk
    rw [e, if_neg (by omega)]
    refine ⟨by congr 1; omega, decide_eq_true (by omega)⟩
theorem at_none {l : List Nb} {nd : Int} (hn : ∀ k, k < l.length → (nth l k).nd ≠ nd) : atS l nd = ⟨nd, 0, 0, 0, ⟨0, 0⟩⟩ := by
  unfold atS
  rcases idxF_spec (isN nd) l 0 with ⟨e, _⟩ | ⟨j, hj, e, hp, _⟩
  · rw [if_pos (by omega)]
  · exact absurd (by simpa [isN] using hp) (hn j hj)
theorem at_nd (l : List Nb) (nd : Int) : (atS l nd).nd = nd := by
  unfold atS
  rcases idxF_spec (isN nd) l 0 with ⟨e, _⟩ | ⟨j, hj, e, hp, _⟩
  · rw [if_pos (by omega)]
  · rw [if_neg (by omega), e, show ((0 + j : Nat) : Int).toNat = j by omega]
    simpa [isN] using hp
theorem sorted_len {l : List Nb} (h1 : ∀ k, k < l.length → okN (nth l k) = true) (h2 : sortedN l) : l.length ≤ 32 := by
  have key : ∀ k, k < l.length → (k : Int) ≤ (nth l k).nd := by
    intro k
    induction k with
    | zero => intro hk; have := (okN_iff _).1 (h1 0 hk); omega
    | succ k ih =>
      intro hk
      have a := ih (by omega)
      have b := h2 k (k + 1) (by omega) hk
      omega
  rcases Nat.lt_or_ge 32 l.length with h | h
  · have a := key 32 h
    have b := (okN_iff _).1 (h1 32 h)
    omega
  · exact h
theorem nth_ins (l : List Nb) (i : Nat) (x : Nb) (k : Nat) (hi : i ≤ l.length) (hk : k < l.length + 1) : nth (l.take i ++ x :: l.drop i) k = if k < i then nth l k else if k = i then x else nth l (k - 1) := by
  have hlen : (l.take i).length = i := by simp; omega
  unfold nth
  rw [List.getD_eq_getElem?_getD, List.getElem?_append, hlen]
  by_cases h1 : k < i
  · rw [if_pos h1, if_pos h1, List.getElem?_take, if_pos h1, List.getD_eq_getElem?_getD]
  · rw [if_neg h1, if_neg h1]
    by_cases h2 : k = i
    · subst h2; simp
    · rw [if_neg h2]
      obtain ⟨d, rfl⟩ : ∃ d, k = i + (d + 1) := ⟨k - i - 1, by omega⟩
      rw [show i + (d + 1) - i = d + 1 by omega, List.getElem?_cons_succ, List.getElem?_drop, List.getD_eq_getElem?_getD]
      congr 2
/-- The list behind: right, the new words at their number, the others kept. -/
theorem hearL_right {l : List Nb} {nd ep ra sl : Int} (h : checkL l = 0) (hh : heardS nd ep ra sl = true) :
    checkL (hearL l nd ep ra sl) = 0 ∧ (hearL l nd ep ra sl).length ≤ l.length + 1 ∧ (∃ k, k < (hearL l nd ep ra sl).length ∧ nth (hearL l nd ep ra sl) k = ⟨nd, ep, ra, sl, (atS l nd).c⟩) ∧
      (∀ k, k < l.length → (nth l k).nd ≠ nd → nth l k ∈ hearL l nd ep ra sl) := by
  obtain ⟨h0, h1, h2⟩ := checkL_ok h
  unfold heardS at hh
  simp only [Bool.and_eq_true, win_iff] at hh
  unfold hearL
  cases hf : foundS l nd with
  | true =>
    rw [if_pos rfl]
    have hlt : lowS l nd < l.length := by unfold foundS at hf; exact (of_decide_eq_true hf).1
    have he : (nth l (lowS l nd)).nd = nd := by unfold foundS at hf; exact (of_decide_eq_true hf).2
    generalize lowS l nd = i at *
    rw [(at_some h2 hlt he).1]
    have hok := (okN_iff _).1 (h1 i hlt)
    refine ⟨set_right h hlt ?_ he.symm, by simp, ⟨i, by simpa using hlt, by rw [nth_set _ _ _ _ hlt, if_pos rfl]⟩, fun k hk hn => ?_⟩
    · rw [okN_iff]; dsimp only; omega
    · have hki : k ≠ i := fun e => hn (by rw [e]; exact he)
      have := nth_set l i ⟨nd, ep, ra, sl, (nth l i).c⟩ k hk
      rw [if_neg hki] at this
      have hk2 : k < (l.set i (⟨nd, ep, ra, sl, (nth l i).c⟩ : Nb)).length := by rw [List.length_set]; exact hk
      rw [← this, nth_eq _ _ hk2]
      exact List.getElem_mem _
  | false =>
    rw [if_neg (by decide)]
    have hle := low_le l nd
    have hlow : ∀ k, k < l.length → ((nth l k).nd < nd ↔ k < lowS l nd) := fun k hk => low_lt k hk h2
    have hne : ∀ k, k < l.length → (nth l k).nd ≠ nd := by
      intro k hk he
      have := (index_at h2 hk he).2
      rw [hf] at this
      cases this
    rw [at_none hne]
    generalize lowS l nd = i at *
    have hl : (l.take i ++ (⟨nd, ep, ra, sl, ⟨0, 0⟩⟩ : Nb) :: l.drop i).length = l.length + 1 := by simp; omega
    have ok2 : ∀ k, k < (l.take i ++ (⟨nd, ep, ra, sl, ⟨0, 0⟩⟩ : Nb) :: l.drop i).length → okN (nth (l.take i ++ (⟨nd, ep, ra, sl, ⟨0, 0⟩⟩ : Nb) :: l.drop i) k) = true := by
      intro k hk
      rw [hl] at hk
      rw [nth_ins l i _ k hle hk]
      split
      · exact h1 k (by omega)
      · split
        · rw [okN_iff]; dsimp only; omega
        · exact h1 (k - 1) (by omega)
    have so2 : sortedN (l.take i ++ (⟨nd, ep, ra, sl, ⟨0, 0⟩⟩ : Nb) :: l.drop i) := by
      intro a b hab hb
      rw [hl] at hb
      rw [nth_ins l i _ a hle (by omega), nth_ins l i _ b hle hb]
      by_cases a1 : a < i
      · rw [if_pos a1]
        by_cases b1 : b < i
        · rw [if_pos b1]; exact h2 a b hab (by omega)
        · rw [if_neg b1]
          by_cases b2 : b = i
          · rw [if_pos b2]; exact (hlow a (by omega)).2 a1
          · rw [if_neg b2]; exact h2 a (b - 1) (by omega) (by omega)
      · rw [if_neg a1, if_neg (show ¬ b < i by omega), if_neg (show ¬ b = i by omega)]
        by_cases a2 : a = i
        · rw [if_pos a2]
          have c1 := hlow (b - 1) (by omega)
          have c2 := hne (b - 1) (by omega)
          dsimp only
          omega
        · rw [if_neg a2]; exact h2 (a - 1) (b - 1) (by omega) (by omega)
    refine ⟨checkL_of (sorted_len ok2 so2) ok2 so2, by rw [hl]; exact Nat.le_refl _, ⟨i, by rw [hl]; omega, by rw [nth_ins l i _ i hle (by omega), if_neg (by omega), if_pos rfl]⟩, fun k hk _ => ?_⟩
    have hm : nth l k ∈ l := by rw [nth_eq l k hk]; exact List.getElem_mem _
    generalize nth l k = y at *
    rw [← List.take_append_drop i l] at hm
    rcases List.mem_append.1 hm with e | e
    · exact List.mem_append.2 (.inl e)
    · exact List.mem_append.2 (.inr (List.mem_cons_of_mem _ e))
theorem hears_main {l : List Nb} {nd ep ra sl : Int} (h : checkL l = 0) (h2 : (hearS l nd ep ra sl).2 = 0) :
    ∃ m x, hearS l nd ep ra sl = (m, 0) ∧ x = (⟨nd, ep, ra, sl, (atS l nd).c⟩ : Nb) ∧ checkL m = 0 ∧ m.length ≤ l.length + 1 ∧ l.length ≤ 32 ∧ (0 ≤ sl ∧ sl ≤ 1099511627776) ∧ atS m nd = x ∧ hasN m nd = true ∧
      (∀ k, k < l.length → (nth l k).nd ≠ nd → inL (nth l k) m = true) ∧
      (∀ age : Int, 0 ≤ age → inL x (forgetS m (sl + age) age) = false ∧ inL x (forgetS m (sl + age) (age + 1)) = true) := by
  unfold hearS at h2 ⊢
  rw [if_neg (by omega)] at h2 ⊢
  cases hh : heardS nd ep ra sl with
  | false => rw [hh, if_pos rfl] at h2; exact absurd h2 (by decide)
  | true =>
    rw [hh, if_neg (by decide)] at h2
    rw [if_neg (by decide)]
    by_cases c : foundS l nd = true ∧ (nth l (lowS l nd)).sl > sl
    · rw [if_pos c] at h2; exact absurd h2 (by decide)
    · rw [if_neg c]
      obtain ⟨a, b, ⟨k, hk, ek⟩, d⟩ := hearL_right h hh
      obtain ⟨_, _, so⟩ := checkL_ok a
      have hat := at_some so hk (nd := nd) (by rw [ek])
      have hmem : (⟨nd, ep, ra, sl, (atS l nd).c⟩ : Nb) ∈ hearL l nd ep ra sl := by rw [← ek, nth_eq _ _ hk]; exact List.getElem_mem _
      have hb : 0 ≤ sl ∧ sl ≤ 1099511627776 := by
        unfold heardS at hh
        simp only [Bool.and_eq_true, win_iff] at hh
        exact hh.2
      refine ⟨_, _, rfl, rfl, a, b, (checkL_ok h).1, hb, by rw [hat.1, ek], hat.2, fun k hk hn => (inL_iff _ _).2 (d k hk hn), fun age hage => ⟨?_, ?_⟩⟩
      · unfold forgetS
        rw [if_neg (by omega)]
        rw [← Bool.not_eq_true, inL_iff, List.mem_filter]
        rintro ⟨_, e⟩
        simp [oldN] at e
        omega
      · unfold forgetS
        rw [if_neg (by omega), inL_iff, List.mem_filter]
        refine ⟨hmem, ?_⟩
        simp [oldN]
        omega
end Go.Proofs.Ytlifpafnkagofaa.S
