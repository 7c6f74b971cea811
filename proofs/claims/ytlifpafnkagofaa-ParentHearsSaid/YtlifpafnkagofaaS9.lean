import Derived.Test.YtlifpafnkagofaaS8
/- Selecting is right, and selecting again changes nothing. -/
namespace Go.Proofs.Ytlifpafnkagofaa.S
open Go Go.RowKit
set_option linter.unusedVariables false
theorem bet_iff (x y : Lk) : betS x y < 0 ↔ (x.nb.ep > y.nb.ep ∨ x.nb.ep = y.nb.ep ∧ (x.nb.ra + x.co < y.nb.ra + y.co ∨ x.nb.ra + x.co = y.nb.ra + y.co ∧ x.nb.nd < y.nb.nd)) := by
  unfold betS orS cmpS
  repeat' split
  all_goals omega
theorem minF_least : ∀ (l : List Lk) (m : Lk), ¬ betS m (minF m l) < 0 ∧ ∀ y ∈ l, ¬ betS y (minF m l) < 0
  | [], m => ⟨by rw [minF, bet_iff]; omega, fun y hy => by cases hy⟩
  | x :: r, m => by
    simp only [minF]
    by_cases h : betS x m < 0
    · rw [if_pos h]
      obtain ⟨h1, h2⟩ := minF_least r x
      refine ⟨?_, fun y hy => ?_⟩
      · generalize minF x r = z at *
        rw [bet_iff] at *; omega
      · rcases List.mem_cons.1 hy with rfl | hy
        · exact h1
        · exact h2 y hy
    · rw [if_neg h]
      obtain ⟨h1, h2⟩ := minF_least r m
      refine ⟨h1, fun y hy => ?_⟩
      rcases List.mem_cons.1 hy with rfl | hy
      · generalize minF m r = z at *
        rw [bet_iff] at *; omega
      · exact h2 y hy
theorem linksF_has {r : Rk} (l : List Nb) : ∀ (m : List Nb) (i : Nat), m = l.drop i → ∀ j, i ≤ j → j < l.length → candB r (nth l j) = true → mkL (nth l j) j ∈ linksF r i m
  | [], i, hm, j, h1, h2, _ => by
    have := congrArg List.length hm
    simp at this
    omega
  | y :: rest, i, hm, j, h1, h2, hc => by
    have hi : i < l.length := by omega
    have hd := drop_at l i hi
    rw [← hm] at hd
    injection hd with e1 e2
    simp only [linksF]
    by_cases hji : j = i
    · subst hji
      rw [e1, if_pos hc]
      exact List.mem_cons_self
    · have := linksF_has l rest (i + 1) e2 j (by omega) h2 hc
      split
      · exact List.mem_cons_of_mem _ this
      · exact this
/-- No candidate is better than the best one. -/
theorem best_least {r : Rk} {l : List Nb} {j : Nat} (hj : j < l.length) (hc : candB r (nth l j) = true) : (bestS r l).2 = true ∧ ¬ betS (mkL (nth l j) j) (bestS r l).1 < 0 := by
  have hm := linksF_has (r := r) l l 0 rfl j (Nat.zero_le _) hj hc
  unfold bestS
  cases hk : linksF r 0 l with
  | nil => rw [hk] at hm; cases hm
  | cons x rest =>
    rw [hk] at hm
    obtain ⟨h1, h2⟩ := minF_least rest x
    refine ⟨rfl, ?_⟩
    show ¬ betS _ (minF x rest) < 0
    rcases List.mem_cons.1 hm with e | hm
    · rw [e]; exact h1
    · exact h2 _ hm
theorem cost_right {x : Nb} (h : okN x = true) : 128 ≤ costS x.c ∧ costS x.c ≤ 1023 := by
  have h := (okN_iff x).1 h
  have hb := costS_bd x.c
  refine ⟨?_, hb.2⟩
  unfold costS
  repeat' split
  all_goals first | omega | skip
  rename_i h1 h2 h3
  have h4 : 128 ≤ (128 * x.c.at_ + x.c.ak - 1) / x.c.ak := by
    rw [Int.le_ediv_iff_mul_le (by omega)]
    omega
  omega
theorem cand_iff (r : Rk) (x : Nb) : candB r x = true ↔ x.nd ≠ r.nd ∧ (checkR r = 0 ∧ r.nd ≠ 0 ∧ 1 ≤ x.ep ∧ x.ep ≤ 65535 ∧ 0 ≤ x.ra ∧ x.ra ≤ 65534 ∧ (x.ep > r.ep ∨ x.ep = r.ep ∧ x.ra < r.le)) ∧ x.ra + costS x.c < 65535 := by
  unfold candB feasR
  simp only [Bool.and_eq_true, decide_eq_true_eq]
  constructor
  · rintro ⟨⟨a, b⟩, c⟩; exact ⟨a, b, c⟩
  · rintro ⟨a, b, c⟩; exact ⟨⟨a, b⟩, c⟩
/-- What adopting a feasible neighbour gives. -/
theorem adopt_ok {r : Rk} {fr ep ra co : Int} (h : checkR r = 0) (hn : r.nd ≠ 0) (h1 : 0 ≤ fr) (h2 : fr ≤ 31) (h3 : fr ≠ r.nd) (h4 : 1 ≤ ep) (h5 : ep ≤ 65535) (h6 : 0 ≤ ra) (h7 : ra ≤ 65534) (h8 : 1 ≤ co) (h9 : co ≤ 1023)
    (hf : ep > r.ep ∨ ep = r.ep ∧ ra < r.le) (hs : ra + co < 65535) : adoptR r fr ep ra co = (⟨r.nd, ep, fr, ra, ra + co, if ep > r.ep then 65535 else r.le⟩, 0) := by
  unfold adoptR
  rw [if_neg (by omega), if_neg (by omega), if_neg (by unfold feasR; simp only [decide_eq_false_iff_not]; omega), if_neg (by omega)]
  unfold beginR
  split
  · rfl
  · have : ep = r.ep := by omega
    rw [this]
theorem adopt_right {r : Rk} {fr ep ra co : Int} (h : checkR r = 0) (hn : r.nd ≠ 0) (h1 : 0 ≤ fr) (h2 : fr ≤ 31) (h3 : fr ≠ r.nd) (h4 : 1 ≤ ep) (h5 : ep ≤ 65535) (h6 : 0 ≤ ra) (h7 : ra ≤ 65534) (h8 : 1 ≤ co) (h9 : co ≤ 1023)
    (hf : ep > r.ep ∨ ep = r.ep ∧ ra < r.le) (hs : ra + co < 65535) : checkR (⟨r.nd, ep, fr, ra, ra + co, if ep > r.ep then 65535 else r.le⟩ : Rk) = 0 := by
  rw [checkR_ok] at *
  dsimp only
  split <;> omega
end Go.Proofs.Ytlifpafnkagofaa.S
