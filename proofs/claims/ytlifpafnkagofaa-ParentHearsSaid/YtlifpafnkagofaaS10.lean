import Derived.Test.YtlifpafnkagofaaS9
/- The state before the choice is right, and stays when it is looked at again; the choice likewise. -/
namespace Go.Proofs.Ytlifpafnkagofaa.S
open Go Go.RowKit
set_option linter.unusedVariables false
theorem lose_right {r : Rk} (h : checkR r = 0) (hn : r.nd ≠ 0) : checkR (loseR r) = 0 ∧ (loseR r).nd = r.nd ∧ (loseR r).pa = -1 := by
  unfold loseR
  rw [if_pos ⟨h, hn⟩]
  refine ⟨?_, rfl, rfl⟩
  rw [checkR_ok] at *
  dsimp only
  omega
theorem begin_right {r : Rk} {ep : Int} (h : checkR r = 0) (h5 : ep ≤ 65535) : checkR (beginR r ep) = 0 := by
  unfold beginR
  split
  · rw [checkR_ok] at *
    dsimp only
    omega
  · exact h
/-- An update leaves the state, or adopts the parent anew, or loses it. -/
theorem update_cases {r : Rk} {ep ra co : Int} (h : checkR r = 0) (hn : r.nd ≠ 0) (hp : 0 ≤ r.pa) (h4 : 1 ≤ ep) (h5 : ep ≤ 65535) (h6 : 0 ≤ ra) (h7 : ra ≤ 65534) (h8 : 1 ≤ co) (h9 : co ≤ 1023) :
    (ep < r.ep ∧ updateR r ep ra co = (r, 0)) ∨
    ((ep > r.ep ∨ ep = r.ep ∧ ra < r.le) ∧ ra + co < 65535 ∧ updateR r ep ra co = (⟨r.nd, ep, r.pa, ra, ra + co, if ep > r.ep then 65535 else r.le⟩, 0)) ∨
    (updateR r ep ra co = (loseR (beginR r ep), 0)) := by
  have hr := (checkR_ok r).1 h
  unfold updateR
  rw [if_neg (by omega), if_neg (by omega), if_neg (by omega)]
  by_cases h1 : ep < r.ep
  · exact .inl ⟨h1, by rw [if_pos h1]⟩
  · right
    rw [if_neg h1]
    by_cases hf : (ep > r.ep ∨ ep = r.ep ∧ ra < r.le) ∧ ra + co < 65535
    · left
      have e := adopt_ok h hn hp (by omega) (by omega) h4 h5 h6 h7 h8 h9 hf.1 hf.2
      refine ⟨hf.1, hf.2, ?_⟩
      rw [e]
      rfl
    · right
      have e : (adoptR r r.pa ep ra co).2 ≠ 0 := by
        unfold adoptR
        rw [if_neg (by omega), if_neg (by omega)]
        by_cases hg : feasR r ep ra = false
        · rw [if_pos hg]; simp
        · rw [if_neg hg]
          have : ep > r.ep ∨ ep = r.ep ∧ ra < r.le := by
            unfold feasR at hg
            simp only [decide_eq_false_iff_not, Decidable.not_not] at hg
            omega
          rw [if_pos (by omega)]
          simp
      rw [if_neg e]
/-- A state whose parent said just what it holds stays. -/
theorem update_same {r : Rk} {ep ra co : Int} (h : checkR r = 0) (hn : r.nd ≠ 0) (hp : 0 ≤ r.pa) (h8 : 1 ≤ co) (h9 : co ≤ 1023) (e1 : ep = r.ep) (e2 : ra = r.he) (e3 : ra + co = r.ra) : updateR r ep ra co = (r, 0) := by
  have hr := (checkR_ok r).1 h
  rcases update_cases (ep := ep) (ra := ra) (co := co) h hn hp (by omega) (by omega) (by omega) (by omega) h8 h9 with ⟨a, b⟩ | ⟨a, b, c⟩ | c
  · exact b
  · rw [c, if_neg (by omega)]
    subst e1 e2
    rw [e3]
  · exfalso
    have hk : (adoptR r r.pa ep ra co).2 = 0 := by
      rw [adopt_ok h hn hp (by omega) (by omega) (by omega) (by omega) (by omega) (by omega) h8 h9 (by omega) (by omega)]
    unfold updateR at c
    rw [if_neg (by omega), if_neg (by omega), if_neg (by omega), if_neg (by omega), if_pos hk, adopt_ok h hn hp (by omega) (by omega) (by omega) (by omega) (by omega) (by omega) h8 h9 (by omega) (by omega)] at c
    have hb : beginR r ep = r := by unfold beginR; rw [if_neg (by omega)]
    rw [hb] at c
    have := (lose_right h hn).2.2
    rw [← (Prod.mk.inj c).1] at this
    dsimp only at this
    omega
/-- The entry that is found. -/
theorem found_at {l : List Nb} {t : Int} (h : foundS l t = true) : (nth l (lowS l t)).nd = t := by unfold foundS at h; exact (of_decide_eq_true h).2
theorem r1_same {a : Rk} {l : List Nb} (hL : checkL l = 0) (h : checkR a = 0) (hn : a.nd ≠ 0) (hp : 0 ≤ a.pa) {k : Nat} (hk : k < l.length) (e0 : (nth l k).nd = a.pa) (e1 : (nth l k).ep = a.ep) (e2 : (nth l k).ra = a.he) (e3 : (nth l k).ra + costS (nth l k).c = a.ra) : r1S a l = a := by
  obtain ⟨_, hok, hso⟩ := checkL_ok hL
  obtain ⟨hl, hf⟩ := index_at hso hk e0
  have hc := cost_right (hok k hk)
  rw [r1_found hp hf, hl, update_same h hn hp (by omega) (by omega) e1 e2 e3]
theorem r1_right {r : Rk} {l : List Nb} (hL : checkL l = 0) (h : checkR r = 0) (hn : r.nd ≠ 0) : checkR (r1S r l) = 0 ∧ (r1S r l).nd = r.nd ∧ r1S (r1S r l) l = r1S r l := by
  obtain ⟨_, hok, hso⟩ := checkL_ok hL
  by_cases hp : 0 ≤ r.pa
  · cases hf : foundS l r.pa with
    | false =>
      rw [r1_lost hp hf]
      obtain ⟨a, b, c⟩ := lose_right h hn
      exact ⟨a, b, r1_none (by omega)⟩
    | true =>
      have hk := found_lt hf
      have hx := found_at hf
      have ho := (okN_iff _).1 (hok _ hk)
      have hc := cost_right (hok _ hk)
      have e := r1_found hp hf
      rcases update_cases (ep := (nth l (lowS l r.pa)).ep) (ra := (nth l (lowS l r.pa)).ra) (co := costS (nth l (lowS l r.pa)).c) h hn hp (by omega) (by omega) (by omega) (by omega) (by omega) (by omega) with ⟨a, b⟩ | ⟨a, b, c⟩ | c
      · rw [b] at e
        have e' : r1S r l = r := e
        rw [e']
        exact ⟨h, rfl, e'⟩
      · rw [c] at e
        have hr := (checkR_ok r).1 h
        have hq := adopt_right h hn hp (by omega) (by omega) (by omega) (by omega) (by omega) (by omega) (by omega) (by omega) a b
        dsimp only at e
        have h2 := r1_same (a := r1S r l) hL (by rw [e]; exact hq) (by rw [e]; exact hn) (by rw [e]; exact hp) hk (by rw [e]; exact hx) (by rw [e]) (by rw [e]) (by rw [e])
        exact ⟨by rw [e]; exact hq, by rw [e], h2⟩
      · rw [c] at e
        dsimp only at e
        obtain ⟨a, b, c⟩ := lose_right (begin_right (ep := (nth l (lowS l r.pa)).ep) h (by omega)) (by rw [begin_nd]; exact hn)
        rw [e]
        exact ⟨a, by rw [b, begin_nd], r1_none (by omega)⟩
  · have e : r1S r l = r := r1_none hp
    rw [e]
    exact ⟨h, rfl, e⟩
theorem r2_yes {r : Rk} {l : List Nb} {mg : Int} (h : (bestS r l).2 = true ∧ (r.pa = -1 ∨ (bestS r l).1.nb.ep > r.ep ∨ (bestS r l).1.nb.ra + (bestS r l).1.co + mg < r.ra)) :
    r2S r l mg = (adoptR r (bestS r l).1.nb.nd (bestS r l).1.nb.ep (bestS r l).1.nb.ra (bestS r l).1.co).1 := by unfold r2S; rw [if_pos h]
theorem r2_no {r : Rk} {l : List Nb} {mg : Int} (h : ¬ ((bestS r l).2 = true ∧ (r.pa = -1 ∨ (bestS r l).1.nb.ep > r.ep ∨ (bestS r l).1.nb.ra + (bestS r l).1.co + mg < r.ra))) : r2S r l mg = r := by unfold r2S; rw [if_neg h]
/-- The best neighbour, adopted. -/
theorem r2_adopt {r : Rk} {l : List Nb} {mg : Int} (hL : checkL l = 0) (h : checkR r = 0) (hn : r.nd ≠ 0) {j : Nat} (hj : j < l.length) (hb : (bestS r l).1 = mkL (nth l j) j) (hc : candB r (nth l j) = true)
    (hy : (bestS r l).2 = true ∧ (r.pa = -1 ∨ (bestS r l).1.nb.ep > r.ep ∨ (bestS r l).1.nb.ra + (bestS r l).1.co + mg < r.ra)) :
    r2S r l mg = ⟨r.nd, (nth l j).ep, (nth l j).nd, (nth l j).ra, (nth l j).ra + costS (nth l j).c, if (nth l j).ep > r.ep then 65535 else r.le⟩ ∧ checkR (r2S r l mg) = 0 := by
  obtain ⟨_, hok, hso⟩ := checkL_ok hL
  have ho := (okN_iff _).1 (hok j hj)
  have hcr := cost_right (hok j hj)
  obtain ⟨c0, c1, c2⟩ := (cand_iff _ _).1 hc
  have e : r2S r l mg = _ := r2_yes hy
  rw [hb] at e
  dsimp only [mkL] at e
  rw [adopt_ok h hn (by omega) (by omega) c0 (by omega) (by omega) (by omega) (by omega) (by omega) (by omega) c1.2.2.2.2.2.2 c2] at e
  refine ⟨e, ?_⟩
  rw [e]
  exact adopt_right h hn (by omega) (by omega) c0 (by omega) (by omega) (by omega) (by omega) (by omega) (by omega) c1.2.2.2.2.2.2 c2
theorem steady {r : Rk} {l : List Nb} {mg : Int} (hL : checkL l = 0) (h0 : checkR r = 0) (hn0 : r.nd ≠ 0) (hm : 0 ≤ mg) :
    checkR (r2S (r1S r l) l mg) = 0 ∧ (r2S (r1S r l) l mg).nd = r.nd ∧ r1S (r2S (r1S r l) l mg) l = r2S (r1S r l) l mg ∧ r2S (r2S (r1S r l) l mg) l mg = r2S (r1S r l) l mg := by
  obtain ⟨h, hnd, hsame⟩ := r1_right hL h0 hn0
  generalize r1S r l = r1 at *
  have hn : r1.nd ≠ 0 := by rw [hnd]; exact hn0
  by_cases hy : (bestS r1 l).2 = true ∧ (r1.pa = -1 ∨ (bestS r1 l).1.nb.ep > r1.ep ∨ (bestS r1 l).1.nb.ra + (bestS r1 l).1.co + mg < r1.ra)
  · obtain ⟨j, hj, hb, hc⟩ := best_ix hy.1
    obtain ⟨e, hq⟩ := r2_adopt hL h hn hj hb hc hy
    obtain ⟨_, hok, hso⟩ := checkL_ok hL
    have ho := (okN_iff _).1 (hok j hj)
    obtain ⟨c0, c1, c2⟩ := (cand_iff _ _).1 hc
    have hr1 : r1S (r2S r1 l mg) l = r2S r1 l mg := r1_same hL hq (by rw [e]; exact hn) (by rw [e]; dsimp only; omega) hj (by rw [e]) (by rw [e]) (by rw [e]) (by rw [e])
    refine ⟨hq, by rw [e]; exact hnd, hr1, ?_⟩
    apply r2_no
    rintro ⟨hk, hw⟩
    obtain ⟨i, hi, hbi, hci⟩ := best_ix hk
    obtain ⟨d0, d1, d2⟩ := (cand_iff _ _).1 hci
    rw [hbi] at hw
    rw [e] at hw d0 d1
    dsimp only [mkL] at hw d0 d1
    have hcand : candB r1 (nth l i) = true := by
      rw [cand_iff]
      refine ⟨d0, ⟨h, hn, d1.2.2.1, d1.2.2.2.1, d1.2.2.2.2.1, d1.2.2.2.2.2.1, ?_⟩, d2⟩
      have hz := d1.2.2.2.2.2.2
      split at hz <;> omega
    have hleast := (best_least hi hcand).2
    rw [hb, bet_iff] at hleast
    dsimp only [mkL] at hleast
    have hz := d1.2.2.2.2.2.2
    omega
  · have e : r2S r1 l mg = r1 := r2_no hy
    rw [e]
    exact ⟨h, hnd, hsame, e⟩
theorem sel_again {r : Rk} {l : List Nb} {mg : Int} (hL : checkL l = 0) (hR : checkR r = 0) (h0 : 0 ≤ mg) (h1 : mg ≤ 65535) :
    ∃ b ch, selectS r l mg = (b, ch, 0) ∧ selectS b l mg = (b, false, 0) ∧ checkR b = 0 ∧ ch = (b.pa != r.pa) := by
  have hw : win mg 0 65535 = true := (win_iff _ _ _).2 ⟨h0, h1⟩
  by_cases hn : r.nd = 0
  · exact ⟨r, false, sel_root ⟨hL, hR⟩ hw hn, sel_root ⟨hL, hR⟩ hw hn, hR, by simp⟩
  · obtain ⟨a, b, c, d⟩ := steady hL hR hn h0
    refine ⟨_, _, sel_main ⟨hL, hR⟩ hw hn, ?_, a, rfl⟩
    rw [sel_main ⟨hL, a⟩ hw (by rw [b]; exact hn), c, d]
    simp
end Go.Proofs.Ytlifpafnkagofaa.S
