import Derived.Test.YtlifpafnkagofaaS7
/- The state before the choice: its parent is none, or a node. -/
namespace Go.Proofs.Ytlifpafnkagofaa.S
open Go Go.RowKit
set_option linter.unusedVariables false
theorem adopt_pa {r : Rk} {fr ep ra co : Int} : (adoptR r fr ep ra co).1.pa = 0 ∨ (adoptR r fr ep ra co).1.pa = fr := by
  unfold adoptR
  repeat' split
  all_goals first | exact .inl rfl | exact .inr rfl
theorem update_pa {r : Rk} {ep ra co : Int} (h : -1 ≤ r.pa) : -1 ≤ (updateR r ep ra co).1.pa := by
  unfold updateR
  repeat' split
  · simp [zR]
  · simp [zR]
  · simp [zR]
  · exact h
  · rcases adopt_pa (r := r) (fr := r.pa) (ep := ep) (ra := ra) (co := co) with e | e
    · dsimp only; omega
    · dsimp only; omega
  · unfold loseR
    split
    · simp
    · unfold beginR
      split
      · exact h
      · exact h
theorem r1_pa {r : Rk} {l : List Nb} (h : checkR r = 0) : -1 ≤ (r1S r l).pa := by
  have hp : -1 ≤ r.pa := by rw [checkR_ok] at h; omega
  unfold r1S
  repeat' split
  · exact update_pa hp
  · unfold loseR
    split
    · simp
    · exact hp
  · exact hp
theorem bestQ_ok {r : Rk} {l : List Nb} (h : checkL l = 0) : bestQ r l = ((bestS r l).1.ix, (bestS r l).2) := by unfold bestQ; rw [if_pos h]
end Go.Proofs.Ytlifpafnkagofaa.S
