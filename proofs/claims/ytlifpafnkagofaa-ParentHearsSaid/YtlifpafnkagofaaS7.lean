import Derived.Test.YtlifpafnkagofaaS6
/- The state with the selected parent. -/
namespace Go.Proofs.Ytlifpafnkagofaa.S
open Go Go.RowKit
set_option linter.unusedVariables false
def r1S (r : Rk) (l : List Nb) : Rk :=
  if 0 ≤ r.pa then (if foundS l r.pa = true then (updateR r (nth l (lowS l r.pa)).ep (nth l (lowS l r.pa)).ra (costS (nth l (lowS l r.pa)).c)).1 else loseR r) else r
def r2S (r : Rk) (l : List Nb) (mg : Int) : Rk :=
  if (bestS r l).2 = true ∧ (r.pa = -1 ∨ (bestS r l).1.nb.ep > r.ep ∨ (bestS r l).1.nb.ra + (bestS r l).1.co + mg < r.ra) then
    (adoptR r (bestS r l).1.nb.nd (bestS r l).1.nb.ep (bestS r l).1.nb.ra (bestS r l).1.co).1 else r
def selectS (r : Rk) (l : List Nb) (mg : Int) : Rk × Bool × Int :=
  if ¬ (checkL l = 0 ∧ checkR r = 0) then (zR, false, 1)
  else if win mg 0 65535 = false then (zR, false, 2)
  else if r.nd = 0 then (r, false, 0)
  else (r2S (r1S r l) l mg, (r2S (r1S r l) l mg).pa != r.pa, 0)
theorem sel_bad {r : Rk} {l : List Nb} {mg : Int} (h : ¬ (checkL l = 0 ∧ checkR r = 0)) : selectS r l mg = (zR, false, 1) := by unfold selectS; rw [if_pos h]
theorem sel_rng {r : Rk} {l : List Nb} {mg : Int} (h : checkL l = 0 ∧ checkR r = 0) (h1 : win mg 0 65535 = false) : selectS r l mg = (zR, false, 2) := by unfold selectS; rw [if_neg (fun k => k h), if_pos h1]
theorem sel_root {r : Rk} {l : List Nb} {mg : Int} (h : checkL l = 0 ∧ checkR r = 0) (h1 : win mg 0 65535 = true) (h2 : r.nd = 0) : selectS r l mg = (r, false, 0) := by unfold selectS; rw [if_neg (fun k => k h), if_neg (by rw [h1]; decide), if_pos h2]
theorem sel_main {r : Rk} {l : List Nb} {mg : Int} (h : checkL l = 0 ∧ checkR r = 0) (h1 : win mg 0 65535 = true) (h2 : r.nd ≠ 0) : selectS r l mg = (r2S (r1S r l) l mg, (r2S (r1S r l) l mg).pa != r.pa, 0) := by unfold selectS; rw [if_neg (fun k => k h), if_neg (by rw [h1]; decide), if_neg h2]
theorem r1_found {r : Rk} {l : List Nb} (h : 0 ≤ r.pa) (hf : foundS l r.pa = true) : r1S r l = (updateR r (nth l (lowS l r.pa)).ep (nth l (lowS l r.pa)).ra (costS (nth l (lowS l r.pa)).c)).1 := by unfold r1S; rw [if_pos h, if_pos hf]
theorem r1_lost {r : Rk} {l : List Nb} (h : 0 ≤ r.pa) (hf : foundS l r.pa = false) : r1S r l = loseR r := by unfold r1S; rw [if_pos h, if_neg (by rw [hf]; decide)]
theorem r1_none {r : Rk} {l : List Nb} (h : ¬ 0 ≤ r.pa) : r1S r l = r := by unfold r1S; rw [if_neg h]
theorem found_lt {l : List Nb} {t : Int} (h : foundS l t = true) : lowS l t < l.length := by unfold foundS at h; exact (of_decide_eq_true h).1
end Go.Proofs.Ytlifpafnkagofaa.S
