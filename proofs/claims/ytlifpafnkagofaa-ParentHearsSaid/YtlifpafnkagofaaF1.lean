import Derived.Test.YtlifpafnkagofaaB0
import Derived.Test.YtlifpafnkagofaaS0
namespace Go.Proofs.Ytlifpafnkagofaa.F
open Go.RowKit Go.Sort Go.Proofs.Ytlifpafnkagofaa.B Go.Proofs.Ytlifpafnkagofaa.S
set_option linter.unusedVariables false
set_option linter.unusedSimpArgs false
theorem ret_int {k : IntKind} {a b : Int} (h : a = b) : Ending.returned (.int k a) = .returned (.int k b) := by rw [h]
theorem rwithin (n l h : Int) (w : World) : Calls Try.prog 52 #[.int .i64 n, .int .i64 l, .int .i64 h] w fun e w' => e = .returned (.bool (win n l h)) ∧ w = w' := by
  unfold win
  by_cases c : l ≤ n
  all_goals
    go_enter Try.func52, Try.ntmps52
    go_wp2
    go_ret
    exact ⟨by simp; omega, rfl⟩
theorem rnode (n : Int) (w : World) : Calls Try.prog 53 #[.int .i64 n] w fun e w' => e = .returned (.bool (win n 0 31)) ∧ w = w' := by
  go_enter Try.func53, Try.ntmps53
  go_wp2_with (go_at_call 52; (with_reducible refine (rwithin _ _ _ _).mono ?_); rintro e w' ⟨rfl, rfl⟩)
  go_ret
  exact ⟨rfl, rfl⟩
set_option maxHeartbeats 4000000 in
theorem rcheck (a0 a1 a2 a3 a4 a5 : Int) (w : World) : Calls Try.prog 18 #[.agg #[.int .i64 a0, .int .i64 a1, .int .i64 a2, .int .i64 a3, .int .i64 a4, .int .i64 a5]] w fun e w' => e = .returned (.int .i64 (checkR ⟨a0, a1, a2, a3, a4, a5⟩)) ∧ Gr w w' := by
  go_enter Try.func18, Try.ntmps18
  go_wp2_with (first | (go_at_call 52; (with_reducible refine (rwithin _ _ _ _).mono ?_); rintro e w' ⟨rfl, rfl⟩) | (go_at_call 53; (with_reducible refine (rnode _ _).mono ?_); rintro e w' ⟨rfl, rfl⟩))
  all_goals first
    | (exfalso; simp_all; done)
    | (go_ret
       refine ⟨ret_int ?_, (by repeat (first | exact Gr.refl _ | with_reducible apply Gr.alloc | with_reducible apply Gr.grow | with_reducible apply Gr.drewN | with_reducible apply Gr.drew))⟩
       try simp only [Bool.not_eq_true, win_not, win_iff, Bool.not_eq_false', beq_iff_eq, Bool.not_eq_true', beq_eq_false_iff_ne, decide_eq_true_eq, decide_eq_false_iff_not, bne_iff_ne, bne_eq_false_iff_eq, ne_eq, Int.not_lt, Int.not_le] at *
       unfold checkR
       dsimp only
       repeat' split
       all_goals first | rfl | omega)
end Go.Proofs.Ytlifpafnkagofaa.F
