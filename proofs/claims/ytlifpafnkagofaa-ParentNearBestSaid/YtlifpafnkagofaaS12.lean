import Derived.Test.YtlifpafnkagofaaS10
import Derived.Test.YtlifpafnkagofaaS11
/- What ParentNearBest says of the selected state. -/
namespace Go.Proofs.Ytlifpafnkagofaa.S
open Go Go.RowKit
set_option linter.unusedVariables false
/-- Behind a choice there is nothing left to choose. -/
theorem stuck {r : Rk} {l : List Nb} {mg : Int} (hL : checkL l = 0) (h0 : checkR r = 0) (hn0 : r.nd ≠ 0) (hm : 0 ≤ mg) :
    ¬ ((bestS (r2S (r1S r l) l mg) l).2 = true ∧ ((r2S (r1S r l) l mg).pa = -1 ∨ (bestS (r2S (r1S r l) l mg) l).1.nb.ep > (r2S (r1S r l) l mg).ep ∨ (bestS (r2S (r1S r l) l mg) l).1.nb.ra + (bestS (r2S (r1S r l) l mg) l).1.co + mg < (r2S (r1S r l) l mg).ra)) := by
  obtain ⟨h, hnd, hsame⟩ := r1_right hL h0 hn0
  generalize r1S r l = r1 at *
  have hn : r1.nd ≠ 0 := by rw [hnd]; exact hn0
  by_cases hy : (bestS r1 l).2 = true ∧ (r1.pa = -1 ∨ (bestS r1 l).1.nb.ep > r1.ep ∨ (bestS r1 l).1.nb.ra + (bestS r1 l).1.co + mg < r1.ra)
  · obtain ⟨j, hj, hb, hc⟩ := best_ix hy.1
    obtain ⟨e, hq⟩ := r2_adopt hL h hn hj hb hc hy
    obtain ⟨_, hok, hso⟩ := checkL_ok hL
    have ho := (okN_iff _).1 (hok j hj)
    obtain ⟨c0, c1, c2⟩ := (cand_iff _ _).1 hc
    rintro ⟨hk, hw⟩
    obtain ⟨i, hi, hbi, hci⟩ := best_ix hk
    obtain ⟨d0, d1, d2⟩ := (cand_iff _ _).1 hci
    rw [hbi] at hw
    rw [e] at hw d0 d1
    dsimp only [mkL] at hw d0 d1
    have hcand : candB r1 (nth l i) = true := by
      rw [cand_iff]
      refine ⟨d0, ⟨h, hn, d1.2.2.1, d1.2.2.2.1, d1.2.2.2.2.1, d1.2.2.2.2.2.1, ?_⟩, d2⟩
      have hz := d1.2.2.2.2.2.2
      split at hz <;> omega
    have hleast := (best_least hi hcand).2
    rw [hb, bet_iff] at hleast
    dsimp only [mkL] at hleast
    have hz := d1.2.2.2.2.2.2
    omega
  · have e : r2S r1 l mg = r1 := r2_no hy
    rw [e]
    exact hy
theorem near_best {r : Rk} {l : List Nb} {mg : Int} (hL : checkL l = 0) (h0 : checkR r = 0) (hn0 : r.nd ≠ 0) (hm : 0 ≤ mg) {b : Int} (hb : bestP (r2S (r1S r l) l mg) l = (b, true)) :
    ∃ j, j < l.length ∧ b = (j : Nat) ∧ 0 ≤ (r2S (r1S r l) l mg).pa ∧ ¬ (nth l j).ep > (r2S (r1S r l) l mg).ep ∧ ¬ (r2S (r1S r l) l mg).ra > (nth l j).ra + costS (nth l j).c + mg := by
  have hs := stuck (mg := mg) hL h0 hn0 hm
  obtain ⟨hq, hnd, _⟩ := steady (mg := mg) hL h0 hn0 hm
  generalize r2S (r1S r l) l mg = a at *
  unfold bestP at hb
  rw [if_pos ⟨hL, hq⟩] at hb
  obtain ⟨h1, h2⟩ := Prod.mk.inj hb
  obtain ⟨j, hj, e, _⟩ := best_ix h2
  rw [h2, e] at hs
  rw [e] at h1
  dsimp only [mkL] at hs h1
  have ha := (checkR_ok a).1 hq
  simp only [true_and, not_or] at hs
  exact ⟨j, hj, h1.symm, by omega, hs.2.1, by omega⟩
theorem near_change {r : Rk} {l : List Nb} {mg : Int} (hL : checkL l = 0) (h0 : checkR r = 0) (hn0 : r.nd ≠ 0) (hm : 0 ≤ mg) (hch : (r2S (r1S r l) l mg).pa ≠ r.pa) (hp : 0 ≤ r.pa) {j : Nat} (hj : j < l.length) (he : (nth l j).nd = r.pa) :
    ∃ u, updateR r (nth l j).ep (nth l j).ra (costS (nth l j).c) = (u, 0) ∧ (0 ≤ u.pa → 0 ≤ (r2S (r1S r l) l mg).pa ∧ ((r2S (r1S r l) l mg).ep > u.ep ∨ (r2S (r1S r l) l mg).ra + mg < u.ra)) := by
  obtain ⟨_, hok, hso⟩ := checkL_ok hL
  obtain ⟨hlow, hf⟩ := index_at hso hj he
  have e1 : r1S r l = (updateR r (nth l j).ep (nth l j).ra (costS (nth l j).c)).1 := by rw [r1_found hp hf, hlow]
  have ho := (okN_iff _).1 (hok j hj)
  have hcr := cost_right (hok j hj)
  obtain ⟨h1, hnd1, _⟩ := r1_right hL h0 hn0
  have hu : ∃ u, updateR r (nth l j).ep (nth l j).ra (costS (nth l j).c) = (u, 0) ∧ (0 ≤ u.pa → u.pa = r.pa) := by
    rcases update_cases (ep := (nth l j).ep) (ra := (nth l j).ra) (co := costS (nth l j).c) h0 hn0 hp (by omega) (by omega) (by omega) (by omega) (by omega) (by omega) with ⟨_, e⟩ | ⟨_, _, e⟩ | e
    · exact ⟨_, e, fun _ => rfl⟩
    · exact ⟨_, e, fun _ => rfl⟩
    · refine ⟨_, e, fun h => ?_⟩
      have := (lose_right (begin_right (ep := (nth l j).ep) h0 (by omega)) (by rw [begin_nd]; exact hn0)).2.2
      omega
  obtain ⟨u, eu, hpu⟩ := hu
  refine ⟨u, eu, fun h => ?_⟩
  rw [eu] at e1
  dsimp only at e1
  rw [e1] at hch h1 hnd1 ⊢
  have hpu' := hpu h
  by_cases hy : (bestS u l).2 = true ∧ (u.pa = -1 ∨ (bestS u l).1.nb.ep > u.ep ∨ (bestS u l).1.nb.ra + (bestS u l).1.co + mg < u.ra)
  · obtain ⟨i, hi, hb, hc⟩ := best_ix hy.1
    obtain ⟨e, hq⟩ := r2_adopt hL h1 (by rw [hnd1]; exact hn0) hi hb hc hy
    have hoi := (okN_iff _).1 (hok i hi)
    have hw := hy.2
    rw [hb] at hw
    dsimp only [mkL] at hw
    rw [e]
    dsimp only
    omega
  · rw [r2_no hy] at hch
    exact absurd hpu' hch
end Go.Proofs.Ytlifpafnkagofaa.S
