import Derived.Test.YtlifpafnkagofaaS15
import Derived.Test.YtlifpafnkagofaaS10
/- What ParentCounts says of one attempt more. -/
namespace Go.Proofs.Ytlifpafnkagofaa.S
open Go Go.RowKit
set_option linter.unusedVariables false
theorem checkF_of : ∀ (l : List Nb) (p : Option Int), (∀ k, k < l.length → okN (nth l k) = true) → sortedN l → (∀ q, p = some q → ∀ k, k < l.length → q < (nth l k).nd) → checkF p l = 0
  | [], p, _, _, _ => rfl
  | x :: r, p, h1, h2, h3 => by
    have hx : okN x = true := h1 0 (by simp)
    have hr : checkF (some x.nd) r = 0 := by
      refine checkF_of r _ (fun k hk => ?_) (fun i j hij hj => ?_) (fun q hq k hk => ?_)
      · have := h1 (k + 1) (by simpa using hk); rwa [nth_cons_succ] at this
      · have := h2 (i + 1) (j + 1) (by omega) (by simpa using hj); rwa [nth_cons_succ, nth_cons_succ] at this
      · injection hq with hq
        have := h2 0 (k + 1) (by omega) (by simpa using hk)
        rw [nth_cons_succ] at this
        rw [← hq]; exact this
    simp only [checkF]
    rw [if_neg (by rw [hx]; decide)]
    cases p with
    | none => exact hr
    | some q =>
      have : q < x.nd := h3 q rfl 0 (by simp)
      show (if q ≥ x.nd then (5 : Int) else _) = 0
      rw [if_neg (by omega)]
      exact hr
theorem checkL_of {l : List Nb} (h0 : l.length ≤ 32) (h1 : ∀ k, k < l.length → okN (nth l k) = true) (h2 : sortedN l) : checkL l = 0 := by
  unfold checkL
  rw [if_neg (by omega)]
  exact checkF_of l none h1 h2 (fun q hq => by cases hq)
theorem nth_set (l : List Nb) (i : Nat) (x : Nb) (k : Nat) (h : k < l.length) : nth (l.set i x) k = if k = i then x else nth l k := by
  rw [nth_eq _ _ (by simpa using h), List.getElem_set]
  by_cases hk : i = k
  · subst hk; simp
  · rw [if_neg hk, if_neg (fun e => hk e.symm), nth_eq]
theorem set_right {l : List Nb} {i : Nat} {x : Nb} (h : checkL l = 0) (hi : i < l.length) (hx : okN x = true) (hn : x.nd = (nth l i).nd) : checkL (l.set i x) = 0 := by
  obtain ⟨h0, h1, h2⟩ := checkL_ok h
  refine checkL_of (by simpa using h0) (fun k hk => ?_) (fun a b hab hb => ?_)
  · rw [List.length_set] at hk
    rw [nth_set _ _ _ _ hk]
    by_cases e : k = i
    · rw [if_pos e]; exact hx
    · rw [if_neg e]; exact h1 k hk
  · rw [List.length_set] at hb
    rw [nth_set _ _ _ _ hb, nth_set _ _ _ _ (by omega)]
    have := h2 a b hab hb
    by_cases e1 : a = i
    · subst e1
      rw [if_pos rfl, if_neg (by omega)]
      omega
    · by_cases e2 : b = i
      · subst e2
        rw [if_pos rfl, if_neg e1]
        omega
      · rw [if_neg e1, if_neg e2]
        exact this
theorem count_right {x : Nb} (h : okN x = true) (ack : Bool) : okN { x with c := countC x.c ack } = true := by
  have h := (okN_iff x).1 h
  rw [okN_iff]
  unfold countC halfC
  dsimp only
  by_cases e : x.c.at_ = 255
  · rw [if_pos e]
    cases ack <;> simp <;> omega
  · rw [if_neg e]
    cases ack <;> simp <;> omega
theorem costS_mid {a k : Int} (h : 4 ≤ a) (h0 : 1 ≤ k) (h1 : k ≤ a) : costS ⟨a, k⟩ = min ((128 * a + k - 1) / k) 1023 := by
  unfold costS; dsimp only
  rw [if_neg (by omega), if_neg (by omega), if_neg (by omega)]
theorem costS_no {a : Int} (h : 4 ≤ a) : costS ⟨a, 0⟩ = 1023 := by
  unfold costS; dsimp only
  rw [if_neg (by omega), if_neg (by omega), if_pos rfl]
theorem cost_one {c : Ct} (h : 4 ≤ c.at_) (h0 : 0 ≤ c.ak) (h1 : c.ak ≤ c.at_) : costS c = 128 ↔ c.ak = c.at_ := by
  obtain ⟨a, k⟩ := c
  dsimp only at *
  by_cases hk : k = 0
  · subst hk; rw [costS_no h]; omega
  · rw [costS_mid h (by omega) h1]
    by_cases e : k = a
    · subst e
      have a1 : 128 ≤ (128 * k + k - 1) / k := by rw [Int.le_ediv_iff_mul_le (by omega)]; omega
      have a2 : ¬ 129 ≤ (128 * k + k - 1) / k := by rw [Int.le_ediv_iff_mul_le (by omega)]; omega
      omega
    · have : 129 ≤ (128 * a + k - 1) / k := by rw [Int.le_ediv_iff_mul_le (by omega)]; omega
      omega
theorem cost_ack {a k : Int} (h : 4 ≤ a) (h0 : 0 ≤ k) (h1 : k ≤ a) : costS ⟨a + 1, k + 1⟩ ≤ costS ⟨a, k⟩ := by
  have hb := (costS_bd ⟨a + 1, k + 1⟩).2
  by_cases hk : k = 0
  · subst hk; rw [costS_no h]; exact hb
  · rw [costS_mid h (by omega) h1, costS_mid (by omega) (by omega) (by omega)]
    have hq : 128 ≤ (128 * a + k - 1) / k := by rw [Int.le_ediv_iff_mul_le (by omega)]; omega
    have hm : 128 * a + k - 1 < ((128 * a + k - 1) / k + 1) * k := Int.lt_mul_of_ediv_lt (by omega) (by omega)
    generalize (128 * a + k - 1) / k = q at *
    have e : (q + 1) * (k + 1) = (q + 1) * k + (q + 1) := by rw [Int.mul_add, Int.mul_one]
    have : (128 * (a + 1) + (k + 1) - 1) / (k + 1) < q + 1 := by
      apply Int.ediv_lt_of_lt_mul (by omega)
      rw [e]
      omega
    omega
theorem cost_lost {a k : Int} (h : 4 ≤ a) (h0 : 0 ≤ k) (h1 : k ≤ a) : costS ⟨a, k⟩ ≤ costS ⟨a + 1, k⟩ := by
  by_cases hk : k = 0
  · subst hk; rw [costS_no h, costS_no (by omega)]; omega
  · rw [costS_mid h (by omega) h1, costS_mid (by omega) (by omega) (by omega)]
    have : (128 * a + k - 1) / k ≤ (128 * (a + 1) + k - 1) / k := Int.ediv_le_ediv (by omega) (by omega)
    omega
theorem len0 {α : Type} : ([] : List α).length = 0 := rfl
theorem counts_none {l : List Nb} {nd : Int} {ack : Bool} (h : checkL l = 0) (hn : ∀ x ∈ l, (x.nd == nd) = false) : countS l nd ack = ([], 7) := by
  unfold countS
  rw [if_neg (by omega), if_pos]
  unfold foundS
  rw [decide_eq_false_iff_not]
  rintro ⟨a, b⟩
  have := hn _ (List.getElem_mem a)
  rw [nth_eq _ _ a] at b
  simp [b] at this
theorem counts_one {l : List Nb} {nd : Int} {ack : Bool} (h : checkL l = 0) {j : Nat} (hj : j < l.length) (he : (nth l j).nd = nd) :
    ∃ m, countS l nd ack = (m, 0) ∧ checkL m = 0 ∧ m.length = l.length ∧ (nth m j).nd = nd ∧ okN (nth l j) = true ∧ okN (nth m j) = true ∧
      (4 ≤ (nth m j).c.at_ → (costS (nth m j).c = 128 ↔ (nth m j).c.ak = (nth m j).c.at_)) ∧
      (4 ≤ (nth l j).c.at_ → (nth l j).c.at_ < 255 → (ack = true → costS (nth m j).c ≤ costS (nth l j).c) ∧ (ack = false → costS (nth l j).c ≤ costS (nth m j).c)) := by
  obtain ⟨_, h1, h2⟩ := checkL_ok h
  obtain ⟨hl, hf⟩ := index_at h2 hj he
  have hok := h1 j hj
  have hnew := count_right hok ack
  refine ⟨countL l nd ack, ?_, ?_, ?_, ?_, hok, ?_, ?_, ?_⟩
  · unfold countS
    rw [if_neg (by omega), if_neg (by rw [hf]; decide)]
  · unfold countL
    rw [hl]
    exact set_right h hj hnew rfl
  · simp [countL]
  · unfold countL
    rw [hl, nth_set _ _ _ _ hj, if_pos rfl]
    exact he
  · unfold countL
    rw [hl, nth_set _ _ _ _ hj, if_pos rfl]
    exact hnew
  · unfold countL
    rw [hl, nth_set _ _ _ _ hj, if_pos rfl]
    intro h4
    have hc := (okN_iff _).1 hnew
    exact cost_one h4 hc.2.2.2.2.2.1 hc.2.2.2.2.2.2
  · unfold countL
    rw [hl, nth_set _ _ _ _ hj, if_pos rfl]
    have hc := (okN_iff _).1 hok
    intro h4 h5
    have e : halfC (nth l j).c = (nth l j).c := by unfold halfC; rw [if_neg (by omega)]
    dsimp only
    unfold countC
    rw [e]
    refine ⟨fun ha => ?_, fun ha => ?_⟩
    · subst ha
      exact cost_ack h4 hc.2.2.2.2.2.1 hc.2.2.2.2.2.2
    · subst ha
      simpa using cost_lost h4 hc.2.2.2.2.2.1 hc.2.2.2.2.2.2
end Go.Proofs.Ytlifpafnkagofaa.S
